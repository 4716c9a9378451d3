/-
  No cell of these rows narrows 'for every input' (looked for: loops, veiled, ifaces, maps, wideKeys, modest, calm, conditions, laid).
  DERIVED. THE GIVEN ROWS OF THIS SEAT. 21 by the template 'for every input the law returns true; each argument reads behind the call as it read before'; 0 by the template 'total and deterministic' (their statements: YtpakplmpihhmbaaTotals.lean).
  GIVEN WITH THE SEED: the statements are not yours to turn. If you find one false, say at which input.
  Laid BY PROGRAM, IN A SANDBOX (cutbox-rows.mjs): the forced cells as the released guide's own fill.sh prints them over the translation 39f9d14efb2caa95… (all of the seat's roots in one cut). By AI agents, Wed Nov 11 2026. No macro, syntax, notation, axiom, sorry.
-/
import Derived.Test.YtpakplmpihhmbaaChecked
import GoSem.Claim
import GoSem.ClaimJoined
import GoSem.ClaimMapViews
import Derived.JoinedTies
import Derived.KernelRfl
namespace Go.Proofs.Ytpakplmpihhmbaa
/- THE CELL 'sum', in the pinned program and in every row, IS THE sha256 OF THE DUMP (.gsa) THAT YtpakplmpihhmbaaProg.lean LOADS. Nothing in Lean hashes anything: it is a label: what it is worth is what the hold of that sum in a sandbox is worth. -/
noncomputable def Try.pinned : Pinned := { name := "ytpakplmpihhmbaa", sum := "39f9d14efb2caa95fdbf80e200ee9bf8d3b41dcfeb6b033972d3df140efe446d", checked := Try.checked }
namespace Rows
def none {H : Type} : Left H := { results := [], args := [] }

/-- 'alibkeep.ObjectRows': WHATEVER THE INPUT: true; the input reads as it did. -/
def objectRowsSpec : ChangeSpec := { name := "objectRows", fn := fun _ => fun
  | [d] => { results := [.lit (.bool true)], args := [d] }
  | _ => none }
def objectRowsRow : OpenClaim := { program := "ytpakplmpihhmbaa", sum := "39f9d14efb2caa95fdbf80e200ee9bf8d3b41dcfeb6b033972d3df140efe446d", func := "alibi/alibkeep.ObjectRows", spec := "objectRows", unfollowed := true, recurses := true, apart := false }
def ObjectRowsSaid : Prop := objectRowsRow.holds Try.pinned (OpenSpec.ofChange objectRowsSpec)

/-- ITS FALSE NEIGHBOUR: 'it returns false'. Refute it at one input. -/
def objectRowsWrong : ChangeSpec := { name := "objectRows", fn := fun _ => fun
  | [d] => { results := [.lit (.bool false)], args := [d] }
  | _ => none }
def ObjectRowsWrongFalsely : Prop := objectRowsRow.holds Try.pinned (OpenSpec.ofChange objectRowsWrong)

/-- 'alibkeep.ObjectFront': WHATEVER THE INPUT: true; the input reads as it did. -/
def objectFrontSpec : ChangeSpec := { name := "objectFront", fn := fun _ => fun
  | [d1, d2, d3] => { results := [.lit (.bool true)], args := [d1, d2, d3] }
  | _ => none }
def objectFrontRow : OpenClaim := { program := "ytpakplmpihhmbaa", sum := "39f9d14efb2caa95fdbf80e200ee9bf8d3b41dcfeb6b033972d3df140efe446d", func := "alibi/alibkeep.ObjectFront", spec := "objectFront", unfollowed := true, recurses := true, apart := false }
def ObjectFrontSaid : Prop := objectFrontRow.holds Try.pinned (OpenSpec.ofChange objectFrontSpec)

/-- ITS FALSE NEIGHBOUR: 'it returns false'. Refute it at one input. -/
def objectFrontWrong : ChangeSpec := { name := "objectFront", fn := fun _ => fun
  | [d1, d2, d3] => { results := [.lit (.bool false)], args := [d1, d2, d3] }
  | _ => none }
def ObjectFrontWrongFalsely : Prop := objectFrontRow.holds Try.pinned (OpenSpec.ofChange objectFrontWrong)

/-- 'alibkeep.ObjectOne': WHATEVER THE INPUT: true; the input reads as it did. -/
def objectOneSpec : ChangeSpec := { name := "objectOne", fn := fun _ => fun
  | [d1, d2, d3, d4] => { results := [.lit (.bool true)], args := [d1, d2, d3, d4] }
  | _ => none }
def objectOneRow : OpenClaim := { program := "ytpakplmpihhmbaa", sum := "39f9d14efb2caa95fdbf80e200ee9bf8d3b41dcfeb6b033972d3df140efe446d", func := "alibi/alibkeep.ObjectOne", spec := "objectOne", unfollowed := true, recurses := true, apart := false }
def ObjectOneSaid : Prop := objectOneRow.holds Try.pinned (OpenSpec.ofChange objectOneSpec)

/-- ITS FALSE NEIGHBOUR: 'it returns false'. Refute it at one input. -/
def objectOneWrong : ChangeSpec := { name := "objectOne", fn := fun _ => fun
  | [d1, d2, d3, d4] => { results := [.lit (.bool false)], args := [d1, d2, d3, d4] }
  | _ => none }
def ObjectOneWrongFalsely : Prop := objectOneRow.holds Try.pinned (OpenSpec.ofChange objectOneWrong)

/-- 'alibkeep.ObjectTurns': WHATEVER THE INPUT: true; the input reads as it did. -/
def objectTurnsSpec : ChangeSpec := { name := "objectTurns", fn := fun _ => fun
  | [d1, d2, d3] => { results := [.lit (.bool true)], args := [d1, d2, d3] }
  | _ => none }
def objectTurnsRow : OpenClaim := { program := "ytpakplmpihhmbaa", sum := "39f9d14efb2caa95fdbf80e200ee9bf8d3b41dcfeb6b033972d3df140efe446d", func := "alibi/alibkeep.ObjectTurns", spec := "objectTurns", unfollowed := true, recurses := true, apart := false }
def ObjectTurnsSaid : Prop := objectTurnsRow.holds Try.pinned (OpenSpec.ofChange objectTurnsSpec)

/-- ITS FALSE NEIGHBOUR: 'it returns false'. Refute it at one input. -/
def objectTurnsWrong : ChangeSpec := { name := "objectTurns", fn := fun _ => fun
  | [d1, d2, d3] => { results := [.lit (.bool false)], args := [d1, d2, d3] }
  | _ => none }
def ObjectTurnsWrongFalsely : Prop := objectTurnsRow.holds Try.pinned (OpenSpec.ofChange objectTurnsWrong)

/-- 'alibkeep.ObjectOwn': WHATEVER THE INPUT: true; the input reads as it did. -/
def objectOwnSpec : ChangeSpec := { name := "objectOwn", fn := fun _ => fun
  | [d1, d2, d3, d4] => { results := [.lit (.bool true)], args := [d1, d2, d3, d4] }
  | _ => none }
def objectOwnRow : OpenClaim := { program := "ytpakplmpihhmbaa", sum := "39f9d14efb2caa95fdbf80e200ee9bf8d3b41dcfeb6b033972d3df140efe446d", func := "alibi/alibkeep.ObjectOwn", spec := "objectOwn", unfollowed := true, recurses := true, apart := false }
def ObjectOwnSaid : Prop := objectOwnRow.holds Try.pinned (OpenSpec.ofChange objectOwnSpec)

/-- ITS FALSE NEIGHBOUR: 'it returns false'. Refute it at one input. -/
def objectOwnWrong : ChangeSpec := { name := "objectOwn", fn := fun _ => fun
  | [d1, d2, d3, d4] => { results := [.lit (.bool false)], args := [d1, d2, d3, d4] }
  | _ => none }
def ObjectOwnWrongFalsely : Prop := objectOwnRow.holds Try.pinned (OpenSpec.ofChange objectOwnWrong)

/-- 'alibkeep.SearchFront': WHATEVER THE INPUT: true; the input reads as it did. -/
def searchFrontSpec : ChangeSpec := { name := "searchFront", fn := fun _ => fun
  | [d1, d2, d3] => { results := [.lit (.bool true)], args := [d1, d2, d3] }
  | _ => none }
def searchFrontRow : OpenClaim := { program := "ytpakplmpihhmbaa", sum := "39f9d14efb2caa95fdbf80e200ee9bf8d3b41dcfeb6b033972d3df140efe446d", func := "alibi/alibkeep.SearchFront", spec := "searchFront", unfollowed := true, recurses := true, apart := false }
def SearchFrontSaid : Prop := searchFrontRow.holds Try.pinned (OpenSpec.ofChange searchFrontSpec)

/-- ITS FALSE NEIGHBOUR: 'it returns false'. Refute it at one input. -/
def searchFrontWrong : ChangeSpec := { name := "searchFront", fn := fun _ => fun
  | [d1, d2, d3] => { results := [.lit (.bool false)], args := [d1, d2, d3] }
  | _ => none }
def SearchFrontWrongFalsely : Prop := searchFrontRow.holds Try.pinned (OpenSpec.ofChange searchFrontWrong)

/-- 'alibkeep.SearchLater': WHATEVER THE INPUT: true; the input reads as it did. -/
def searchLaterSpec : ChangeSpec := { name := "searchLater", fn := fun _ => fun
  | [d1, d2, d3] => { results := [.lit (.bool true)], args := [d1, d2, d3] }
  | _ => none }
def searchLaterRow : OpenClaim := { program := "ytpakplmpihhmbaa", sum := "39f9d14efb2caa95fdbf80e200ee9bf8d3b41dcfeb6b033972d3df140efe446d", func := "alibi/alibkeep.SearchLater", spec := "searchLater", unfollowed := true, recurses := true, apart := false }
def SearchLaterSaid : Prop := searchLaterRow.holds Try.pinned (OpenSpec.ofChange searchLaterSpec)

/-- ITS FALSE NEIGHBOUR: 'it returns false'. Refute it at one input. -/
def searchLaterWrong : ChangeSpec := { name := "searchLater", fn := fun _ => fun
  | [d1, d2, d3] => { results := [.lit (.bool false)], args := [d1, d2, d3] }
  | _ => none }
def SearchLaterWrongFalsely : Prop := searchLaterRow.holds Try.pinned (OpenSpec.ofChange searchLaterWrong)

/-- 'alibkeep.SearchNever': WHATEVER THE INPUT: true; the input reads as it did. -/
def searchNeverSpec : ChangeSpec := { name := "searchNever", fn := fun _ => fun
  | [d1, d2, d3] => { results := [.lit (.bool true)], args := [d1, d2, d3] }
  | _ => none }
def searchNeverRow : OpenClaim := { program := "ytpakplmpihhmbaa", sum := "39f9d14efb2caa95fdbf80e200ee9bf8d3b41dcfeb6b033972d3df140efe446d", func := "alibi/alibkeep.SearchNever", spec := "searchNever", unfollowed := true, recurses := true, apart := false }
def SearchNeverSaid : Prop := searchNeverRow.holds Try.pinned (OpenSpec.ofChange searchNeverSpec)

/-- ITS FALSE NEIGHBOUR: 'it returns false'. Refute it at one input. -/
def searchNeverWrong : ChangeSpec := { name := "searchNever", fn := fun _ => fun
  | [d1, d2, d3] => { results := [.lit (.bool false)], args := [d1, d2, d3] }
  | _ => none }
def SearchNeverWrongFalsely : Prop := searchNeverRow.holds Try.pinned (OpenSpec.ofChange searchNeverWrong)

/-- 'alibkeep.SearchAlone': WHATEVER THE INPUT: true; the input reads as it did. -/
def searchAloneSpec : ChangeSpec := { name := "searchAlone", fn := fun _ => fun
  | [d1, d2] => { results := [.lit (.bool true)], args := [d1, d2] }
  | _ => none }
def searchAloneRow : OpenClaim := { program := "ytpakplmpihhmbaa", sum := "39f9d14efb2caa95fdbf80e200ee9bf8d3b41dcfeb6b033972d3df140efe446d", func := "alibi/alibkeep.SearchAlone", spec := "searchAlone", unfollowed := true, recurses := true, apart := false }
def SearchAloneSaid : Prop := searchAloneRow.holds Try.pinned (OpenSpec.ofChange searchAloneSpec)

/-- ITS FALSE NEIGHBOUR: 'it returns false'. Refute it at one input. -/
def searchAloneWrong : ChangeSpec := { name := "searchAlone", fn := fun _ => fun
  | [d1, d2] => { results := [.lit (.bool false)], args := [d1, d2] }
  | _ => none }
def SearchAloneWrongFalsely : Prop := searchAloneRow.holds Try.pinned (OpenSpec.ofChange searchAloneWrong)

/-- 'alibkeep.SearchFound': WHATEVER THE INPUT: true; the input reads as it did. -/
def searchFoundSpec : ChangeSpec := { name := "searchFound", fn := fun _ => fun
  | [d1, d2, d3] => { results := [.lit (.bool true)], args := [d1, d2, d3] }
  | _ => none }
def searchFoundRow : OpenClaim := { program := "ytpakplmpihhmbaa", sum := "39f9d14efb2caa95fdbf80e200ee9bf8d3b41dcfeb6b033972d3df140efe446d", func := "alibi/alibkeep.SearchFound", spec := "searchFound", unfollowed := true, recurses := true, apart := false }
def SearchFoundSaid : Prop := searchFoundRow.holds Try.pinned (OpenSpec.ofChange searchFoundSpec)

/-- ITS FALSE NEIGHBOUR: 'it returns false'. Refute it at one input. -/
def searchFoundWrong : ChangeSpec := { name := "searchFound", fn := fun _ => fun
  | [d1, d2, d3] => { results := [.lit (.bool false)], args := [d1, d2, d3] }
  | _ => none }
def SearchFoundWrongFalsely : Prop := searchFoundRow.holds Try.pinned (OpenSpec.ofChange searchFoundWrong)

/-- 'alibkeep.SeqMoves': WHATEVER THE INPUT: true; the input reads as it did. -/
def seqMovesSpec : ChangeSpec := { name := "seqMoves", fn := fun _ => fun
  | [d1, d2, d3] => { results := [.lit (.bool true)], args := [d1, d2, d3] }
  | _ => none }
def seqMovesRow : OpenClaim := { program := "ytpakplmpihhmbaa", sum := "39f9d14efb2caa95fdbf80e200ee9bf8d3b41dcfeb6b033972d3df140efe446d", func := "alibi/alibkeep.SeqMoves", spec := "seqMoves", unfollowed := true, recurses := true, apart := false }
def SeqMovesSaid : Prop := seqMovesRow.holds Try.pinned (OpenSpec.ofChange seqMovesSpec)

/-- ITS FALSE NEIGHBOUR: 'it returns false'. Refute it at one input. -/
def seqMovesWrong : ChangeSpec := { name := "seqMoves", fn := fun _ => fun
  | [d1, d2, d3] => { results := [.lit (.bool false)], args := [d1, d2, d3] }
  | _ => none }
def SeqMovesWrongFalsely : Prop := seqMovesRow.holds Try.pinned (OpenSpec.ofChange seqMovesWrong)

/-- 'alibkeep.SeqOrdered': WHATEVER THE INPUT: true; the input reads as it did. -/
def seqOrderedSpec : ChangeSpec := { name := "seqOrdered", fn := fun _ => fun
  | [d1, d2] => { results := [.lit (.bool true)], args := [d1, d2] }
  | _ => none }
def seqOrderedRow : OpenClaim := { program := "ytpakplmpihhmbaa", sum := "39f9d14efb2caa95fdbf80e200ee9bf8d3b41dcfeb6b033972d3df140efe446d", func := "alibi/alibkeep.SeqOrdered", spec := "seqOrdered", unfollowed := true, recurses := true, apart := false }
def SeqOrderedSaid : Prop := seqOrderedRow.holds Try.pinned (OpenSpec.ofChange seqOrderedSpec)

/-- ITS FALSE NEIGHBOUR: 'it returns false'. Refute it at one input. -/
def seqOrderedWrong : ChangeSpec := { name := "seqOrdered", fn := fun _ => fun
  | [d1, d2] => { results := [.lit (.bool false)], args := [d1, d2] }
  | _ => none }
def SeqOrderedWrongFalsely : Prop := seqOrderedRow.holds Try.pinned (OpenSpec.ofChange seqOrderedWrong)

/-- 'alibkeep.SeqCalm': WHATEVER THE INPUT: true; the input reads as it did. -/
def seqCalmSpec : ChangeSpec := { name := "seqCalm", fn := fun _ => fun
  | [d1, d2] => { results := [.lit (.bool true)], args := [d1, d2] }
  | _ => none }
def seqCalmRow : OpenClaim := { program := "ytpakplmpihhmbaa", sum := "39f9d14efb2caa95fdbf80e200ee9bf8d3b41dcfeb6b033972d3df140efe446d", func := "alibi/alibkeep.SeqCalm", spec := "seqCalm", unfollowed := true, recurses := true, apart := false }
def SeqCalmSaid : Prop := seqCalmRow.holds Try.pinned (OpenSpec.ofChange seqCalmSpec)

/-- ITS FALSE NEIGHBOUR: 'it returns false'. Refute it at one input. -/
def seqCalmWrong : ChangeSpec := { name := "seqCalm", fn := fun _ => fun
  | [d1, d2] => { results := [.lit (.bool false)], args := [d1, d2] }
  | _ => none }
def SeqCalmWrongFalsely : Prop := seqCalmRow.holds Try.pinned (OpenSpec.ofChange seqCalmWrong)

/-- 'alibkeep.SeqWeaker': WHATEVER THE INPUT: true; the input reads as it did. -/
def seqWeakerSpec : ChangeSpec := { name := "seqWeaker", fn := fun _ => fun
  | [d1, d2] => { results := [.lit (.bool true)], args := [d1, d2] }
  | _ => none }
def seqWeakerRow : OpenClaim := { program := "ytpakplmpihhmbaa", sum := "39f9d14efb2caa95fdbf80e200ee9bf8d3b41dcfeb6b033972d3df140efe446d", func := "alibi/alibkeep.SeqWeaker", spec := "seqWeaker", unfollowed := true, recurses := true, apart := false }
def SeqWeakerSaid : Prop := seqWeakerRow.holds Try.pinned (OpenSpec.ofChange seqWeakerSpec)

/-- ITS FALSE NEIGHBOUR: 'it returns false'. Refute it at one input. -/
def seqWeakerWrong : ChangeSpec := { name := "seqWeaker", fn := fun _ => fun
  | [d1, d2] => { results := [.lit (.bool false)], args := [d1, d2] }
  | _ => none }
def SeqWeakerWrongFalsely : Prop := seqWeakerRow.holds Try.pinned (OpenSpec.ofChange seqWeakerWrong)

/-- 'alibkeep.SeqApart': WHATEVER THE INPUT: true; the input reads as it did. -/
def seqApartSpec : ChangeSpec := { name := "seqApart", fn := fun _ => fun
  | [] => { results := [.lit (.bool true)], args := [] }
  | _ => none }
def seqApartRow : OpenClaim := { program := "ytpakplmpihhmbaa", sum := "39f9d14efb2caa95fdbf80e200ee9bf8d3b41dcfeb6b033972d3df140efe446d", func := "alibi/alibkeep.SeqApart", spec := "seqApart", unfollowed := true, recurses := true, apart := false }
def SeqApartSaid : Prop := seqApartRow.holds Try.pinned (OpenSpec.ofChange seqApartSpec)

/-- ITS FALSE NEIGHBOUR: 'it returns false'. Refute it at one input. -/
def seqApartWrong : ChangeSpec := { name := "seqApart", fn := fun _ => fun
  | [] => { results := [.lit (.bool false)], args := [] }
  | _ => none }
def SeqApartWrongFalsely : Prop := seqApartRow.holds Try.pinned (OpenSpec.ofChange seqApartWrong)

/-- 'alibkeep.LocalWhole': WHATEVER THE INPUT: true; the input reads as it did. -/
def localWholeSpec : ChangeSpec := { name := "localWhole", fn := fun _ => fun
  | [d1, d2] => { results := [.lit (.bool true)], args := [d1, d2] }
  | _ => none }
def localWholeRow : OpenClaim := { program := "ytpakplmpihhmbaa", sum := "39f9d14efb2caa95fdbf80e200ee9bf8d3b41dcfeb6b033972d3df140efe446d", func := "alibi/alibkeep.LocalWhole", spec := "localWhole", unfollowed := true, recurses := true, apart := false }
def LocalWholeSaid : Prop := localWholeRow.holds Try.pinned (OpenSpec.ofChange localWholeSpec)

/-- ITS FALSE NEIGHBOUR: 'it returns false'. Refute it at one input. -/
def localWholeWrong : ChangeSpec := { name := "localWhole", fn := fun _ => fun
  | [d1, d2] => { results := [.lit (.bool false)], args := [d1, d2] }
  | _ => none }
def LocalWholeWrongFalsely : Prop := localWholeRow.holds Try.pinned (OpenSpec.ofChange localWholeWrong)

/-- 'alibkeep.LocalJoined': WHATEVER THE INPUT: true; the input reads as it did. -/
def localJoinedSpec : ChangeSpec := { name := "localJoined", fn := fun _ => fun
  | [d1, d2] => { results := [.lit (.bool true)], args := [d1, d2] }
  | _ => none }
def localJoinedRow : OpenClaim := { program := "ytpakplmpihhmbaa", sum := "39f9d14efb2caa95fdbf80e200ee9bf8d3b41dcfeb6b033972d3df140efe446d", func := "alibi/alibkeep.LocalJoined", spec := "localJoined", unfollowed := true, recurses := true, apart := false }
def LocalJoinedSaid : Prop := localJoinedRow.holds Try.pinned (OpenSpec.ofChange localJoinedSpec)

/-- ITS FALSE NEIGHBOUR: 'it returns false'. Refute it at one input. -/
def localJoinedWrong : ChangeSpec := { name := "localJoined", fn := fun _ => fun
  | [d1, d2] => { results := [.lit (.bool false)], args := [d1, d2] }
  | _ => none }
def LocalJoinedWrongFalsely : Prop := localJoinedRow.holds Try.pinned (OpenSpec.ofChange localJoinedWrong)

/-- 'alibkeep.LocalAny': WHATEVER THE INPUT: true; the input reads as it did. -/
def localAnySpec : ChangeSpec := { name := "localAny", fn := fun _ => fun
  | [d1, d2, d3] => { results := [.lit (.bool true)], args := [d1, d2, d3] }
  | _ => none }
def localAnyRow : OpenClaim := { program := "ytpakplmpihhmbaa", sum := "39f9d14efb2caa95fdbf80e200ee9bf8d3b41dcfeb6b033972d3df140efe446d", func := "alibi/alibkeep.LocalAny", spec := "localAny", unfollowed := true, recurses := true, apart := false }
def LocalAnySaid : Prop := localAnyRow.holds Try.pinned (OpenSpec.ofChange localAnySpec)

/-- ITS FALSE NEIGHBOUR: 'it returns false'. Refute it at one input. -/
def localAnyWrong : ChangeSpec := { name := "localAny", fn := fun _ => fun
  | [d1, d2, d3] => { results := [.lit (.bool false)], args := [d1, d2, d3] }
  | _ => none }
def LocalAnyWrongFalsely : Prop := localAnyRow.holds Try.pinned (OpenSpec.ofChange localAnyWrong)

/-- 'alibkeep.CausalStrict': WHATEVER THE INPUT: true; the input reads as it did. -/
def causalStrictSpec : ChangeSpec := { name := "causalStrict", fn := fun _ => fun
  | [] => { results := [.lit (.bool true)], args := [] }
  | _ => none }
def causalStrictRow : OpenClaim := { program := "ytpakplmpihhmbaa", sum := "39f9d14efb2caa95fdbf80e200ee9bf8d3b41dcfeb6b033972d3df140efe446d", func := "alibi/alibkeep.CausalStrict", spec := "causalStrict", unfollowed := true, recurses := true, apart := false }
def CausalStrictSaid : Prop := causalStrictRow.holds Try.pinned (OpenSpec.ofChange causalStrictSpec)

/-- ITS FALSE NEIGHBOUR: 'it returns false'. Refute it at one input. -/
def causalStrictWrong : ChangeSpec := { name := "causalStrict", fn := fun _ => fun
  | [] => { results := [.lit (.bool false)], args := [] }
  | _ => none }
def CausalStrictWrongFalsely : Prop := causalStrictRow.holds Try.pinned (OpenSpec.ofChange causalStrictWrong)

/-- 'alibkeep.CausalAlone': WHATEVER THE INPUT: true; the input reads as it did. -/
def causalAloneSpec : ChangeSpec := { name := "causalAlone", fn := fun _ => fun
  | [d1, d2] => { results := [.lit (.bool true)], args := [d1, d2] }
  | _ => none }
def causalAloneRow : OpenClaim := { program := "ytpakplmpihhmbaa", sum := "39f9d14efb2caa95fdbf80e200ee9bf8d3b41dcfeb6b033972d3df140efe446d", func := "alibi/alibkeep.CausalAlone", spec := "causalAlone", unfollowed := true, recurses := true, apart := false }
def CausalAloneSaid : Prop := causalAloneRow.holds Try.pinned (OpenSpec.ofChange causalAloneSpec)

/-- ITS FALSE NEIGHBOUR: 'it returns false'. Refute it at one input. -/
def causalAloneWrong : ChangeSpec := { name := "causalAlone", fn := fun _ => fun
  | [d1, d2] => { results := [.lit (.bool false)], args := [d1, d2] }
  | _ => none }
def CausalAloneWrongFalsely : Prop := causalAloneRow.holds Try.pinned (OpenSpec.ofChange causalAloneWrong)

/-- 'alibkeep.CausalWeaker': WHATEVER THE INPUT: true; the input reads as it did. -/
def causalWeakerSpec : ChangeSpec := { name := "causalWeaker", fn := fun _ => fun
  | [d1, d2] => { results := [.lit (.bool true)], args := [d1, d2] }
  | _ => none }
def causalWeakerRow : OpenClaim := { program := "ytpakplmpihhmbaa", sum := "39f9d14efb2caa95fdbf80e200ee9bf8d3b41dcfeb6b033972d3df140efe446d", func := "alibi/alibkeep.CausalWeaker", spec := "causalWeaker", unfollowed := true, recurses := true, apart := false }
def CausalWeakerSaid : Prop := causalWeakerRow.holds Try.pinned (OpenSpec.ofChange causalWeakerSpec)

/-- ITS FALSE NEIGHBOUR: 'it returns false'. Refute it at one input. -/
def causalWeakerWrong : ChangeSpec := { name := "causalWeaker", fn := fun _ => fun
  | [d1, d2] => { results := [.lit (.bool false)], args := [d1, d2] }
  | _ => none }
def CausalWeakerWrongFalsely : Prop := causalWeakerRow.holds Try.pinned (OpenSpec.ofChange causalWeakerWrong)

/- THE SECOND FORM. 'bulk': how many values and letters a reading holds, each counted each time it is reached (what is shared counts as often as it is met; a slice's spare places count too). A statement '..UptoSaid' is the law's where the arguments, and the package variables that the reading takes, are together of bulk at most 1048576: NARROWER than '..Said'. Prove '..Said' where nothing that the law and all that it calls make is longer than what came in: it says more and counts as full. Else prove '..UptoSaid'. A law counts once. -/
mutual
def uptoBulk {H : Type} : DataW H → Nat
  | .lit (.string bytes) => bytes.length + 1
  | .lit _ => 1
  | .nil => 1
  | .ptr d => uptoBulk d + 1
  | .slice elems spare => uptoBulkAll elems + uptoBulkAll spare + 1
  | .agg parts => uptoBulkAll parts + 1
  | .iface _ d => uptoBulk d + 1
  | .map entries => uptoBulkEntries entries + 1
  | .held _ => 1
def uptoBulkAll {H : Type} : List (DataW H) → Nat
  | [] => 0
  | d :: r => uptoBulk d + uptoBulkAll r
def uptoBulkEntries {H : Type} : List (Lit × DataW H) → Nat
  | [] => 0
  | x :: r => uptoBulkEntry x + uptoBulkEntries r
def uptoBulkEntry {H : Type} : Lit × DataW H → Nat
  | (.string bytes, d) => bytes.length + uptoBulk d + 1
  | (_, d) => uptoBulk d + 1
 end
def uptoSmall : (H : Type) → List (DataW H) → Bool := fun _ ds => decide (uptoBulkAll ds ≤ 1048576)
def OpenSpec.upto (s : _root_.Go.ChangeSpec) : _root_.Go.OpenSpec := { _root_.Go.OpenSpec.ofChange s with cond := some uptoSmall }

/-- 'alibkeep.ObjectRows', WHERE WHAT IT READS IS OF BULK AT MOST 1048576: true; the input reads as it did. -/
def objectRowsUptoRow : OpenClaim := { program := "ytpakplmpihhmbaa", sum := "39f9d14efb2caa95fdbf80e200ee9bf8d3b41dcfeb6b033972d3df140efe446d", func := "alibi/alibkeep.ObjectRows", spec := "objectRows", unfollowed := true, recurses := true, apart := false, narrowed := true }
def ObjectRowsUptoSaid : Prop := objectRowsUptoRow.holds Try.pinned (OpenSpec.upto objectRowsSpec)

/-- 'alibkeep.ObjectFront', WHERE WHAT IT READS IS OF BULK AT MOST 1048576: true; the input reads as it did. -/
def objectFrontUptoRow : OpenClaim := { program := "ytpakplmpihhmbaa", sum := "39f9d14efb2caa95fdbf80e200ee9bf8d3b41dcfeb6b033972d3df140efe446d", func := "alibi/alibkeep.ObjectFront", spec := "objectFront", unfollowed := true, recurses := true, apart := false, narrowed := true }
def ObjectFrontUptoSaid : Prop := objectFrontUptoRow.holds Try.pinned (OpenSpec.upto objectFrontSpec)

/-- 'alibkeep.ObjectOne', WHERE WHAT IT READS IS OF BULK AT MOST 1048576: true; the input reads as it did. -/
def objectOneUptoRow : OpenClaim := { program := "ytpakplmpihhmbaa", sum := "39f9d14efb2caa95fdbf80e200ee9bf8d3b41dcfeb6b033972d3df140efe446d", func := "alibi/alibkeep.ObjectOne", spec := "objectOne", unfollowed := true, recurses := true, apart := false, narrowed := true }
def ObjectOneUptoSaid : Prop := objectOneUptoRow.holds Try.pinned (OpenSpec.upto objectOneSpec)

/-- 'alibkeep.ObjectTurns', WHERE WHAT IT READS IS OF BULK AT MOST 1048576: true; the input reads as it did. -/
def objectTurnsUptoRow : OpenClaim := { program := "ytpakplmpihhmbaa", sum := "39f9d14efb2caa95fdbf80e200ee9bf8d3b41dcfeb6b033972d3df140efe446d", func := "alibi/alibkeep.ObjectTurns", spec := "objectTurns", unfollowed := true, recurses := true, apart := false, narrowed := true }
def ObjectTurnsUptoSaid : Prop := objectTurnsUptoRow.holds Try.pinned (OpenSpec.upto objectTurnsSpec)

/-- 'alibkeep.ObjectOwn', WHERE WHAT IT READS IS OF BULK AT MOST 1048576: true; the input reads as it did. -/
def objectOwnUptoRow : OpenClaim := { program := "ytpakplmpihhmbaa", sum := "39f9d14efb2caa95fdbf80e200ee9bf8d3b41dcfeb6b033972d3df140efe446d", func := "alibi/alibkeep.ObjectOwn", spec := "objectOwn", unfollowed := true, recurses := true, apart := false, narrowed := true }
def ObjectOwnUptoSaid : Prop := objectOwnUptoRow.holds Try.pinned (OpenSpec.upto objectOwnSpec)

/-- 'alibkeep.SearchFront', WHERE WHAT IT READS IS OF BULK AT MOST 1048576: true; the input reads as it did. -/
def searchFrontUptoRow : OpenClaim := { program := "ytpakplmpihhmbaa", sum := "39f9d14efb2caa95fdbf80e200ee9bf8d3b41dcfeb6b033972d3df140efe446d", func := "alibi/alibkeep.SearchFront", spec := "searchFront", unfollowed := true, recurses := true, apart := false, narrowed := true }
def SearchFrontUptoSaid : Prop := searchFrontUptoRow.holds Try.pinned (OpenSpec.upto searchFrontSpec)

/-- 'alibkeep.SearchLater', WHERE WHAT IT READS IS OF BULK AT MOST 1048576: true; the input reads as it did. -/
def searchLaterUptoRow : OpenClaim := { program := "ytpakplmpihhmbaa", sum := "39f9d14efb2caa95fdbf80e200ee9bf8d3b41dcfeb6b033972d3df140efe446d", func := "alibi/alibkeep.SearchLater", spec := "searchLater", unfollowed := true, recurses := true, apart := false, narrowed := true }
def SearchLaterUptoSaid : Prop := searchLaterUptoRow.holds Try.pinned (OpenSpec.upto searchLaterSpec)

/-- 'alibkeep.SearchNever', WHERE WHAT IT READS IS OF BULK AT MOST 1048576: true; the input reads as it did. -/
def searchNeverUptoRow : OpenClaim := { program := "ytpakplmpihhmbaa", sum := "39f9d14efb2caa95fdbf80e200ee9bf8d3b41dcfeb6b033972d3df140efe446d", func := "alibi/alibkeep.SearchNever", spec := "searchNever", unfollowed := true, recurses := true, apart := false, narrowed := true }
def SearchNeverUptoSaid : Prop := searchNeverUptoRow.holds Try.pinned (OpenSpec.upto searchNeverSpec)

/-- 'alibkeep.SearchAlone', WHERE WHAT IT READS IS OF BULK AT MOST 1048576: true; the input reads as it did. -/
def searchAloneUptoRow : OpenClaim := { program := "ytpakplmpihhmbaa", sum := "39f9d14efb2caa95fdbf80e200ee9bf8d3b41dcfeb6b033972d3df140efe446d", func := "alibi/alibkeep.SearchAlone", spec := "searchAlone", unfollowed := true, recurses := true, apart := false, narrowed := true }
def SearchAloneUptoSaid : Prop := searchAloneUptoRow.holds Try.pinned (OpenSpec.upto searchAloneSpec)

/-- 'alibkeep.SearchFound', WHERE WHAT IT READS IS OF BULK AT MOST 1048576: true; the input reads as it did. -/
def searchFoundUptoRow : OpenClaim := { program := "ytpakplmpihhmbaa", sum := "39f9d14efb2caa95fdbf80e200ee9bf8d3b41dcfeb6b033972d3df140efe446d", func := "alibi/alibkeep.SearchFound", spec := "searchFound", unfollowed := true, recurses := true, apart := false, narrowed := true }
def SearchFoundUptoSaid : Prop := searchFoundUptoRow.holds Try.pinned (OpenSpec.upto searchFoundSpec)

/-- 'alibkeep.SeqMoves', WHERE WHAT IT READS IS OF BULK AT MOST 1048576: true; the input reads as it did. -/
def seqMovesUptoRow : OpenClaim := { program := "ytpakplmpihhmbaa", sum := "39f9d14efb2caa95fdbf80e200ee9bf8d3b41dcfeb6b033972d3df140efe446d", func := "alibi/alibkeep.SeqMoves", spec := "seqMoves", unfollowed := true, recurses := true, apart := false, narrowed := true }
def SeqMovesUptoSaid : Prop := seqMovesUptoRow.holds Try.pinned (OpenSpec.upto seqMovesSpec)

/-- 'alibkeep.SeqOrdered', WHERE WHAT IT READS IS OF BULK AT MOST 1048576: true; the input reads as it did. -/
def seqOrderedUptoRow : OpenClaim := { program := "ytpakplmpihhmbaa", sum := "39f9d14efb2caa95fdbf80e200ee9bf8d3b41dcfeb6b033972d3df140efe446d", func := "alibi/alibkeep.SeqOrdered", spec := "seqOrdered", unfollowed := true, recurses := true, apart := false, narrowed := true }
def SeqOrderedUptoSaid : Prop := seqOrderedUptoRow.holds Try.pinned (OpenSpec.upto seqOrderedSpec)

/-- 'alibkeep.SeqCalm', WHERE WHAT IT READS IS OF BULK AT MOST 1048576: true; the input reads as it did. -/
def seqCalmUptoRow : OpenClaim := { program := "ytpakplmpihhmbaa", sum := "39f9d14efb2caa95fdbf80e200ee9bf8d3b41dcfeb6b033972d3df140efe446d", func := "alibi/alibkeep.SeqCalm", spec := "seqCalm", unfollowed := true, recurses := true, apart := false, narrowed := true }
def SeqCalmUptoSaid : Prop := seqCalmUptoRow.holds Try.pinned (OpenSpec.upto seqCalmSpec)

/-- 'alibkeep.SeqWeaker', WHERE WHAT IT READS IS OF BULK AT MOST 1048576: true; the input reads as it did. -/
def seqWeakerUptoRow : OpenClaim := { program := "ytpakplmpihhmbaa", sum := "39f9d14efb2caa95fdbf80e200ee9bf8d3b41dcfeb6b033972d3df140efe446d", func := "alibi/alibkeep.SeqWeaker", spec := "seqWeaker", unfollowed := true, recurses := true, apart := false, narrowed := true }
def SeqWeakerUptoSaid : Prop := seqWeakerUptoRow.holds Try.pinned (OpenSpec.upto seqWeakerSpec)

/-- 'alibkeep.SeqApart', WHERE WHAT IT READS IS OF BULK AT MOST 1048576: true; the input reads as it did. -/
def seqApartUptoRow : OpenClaim := { program := "ytpakplmpihhmbaa", sum := "39f9d14efb2caa95fdbf80e200ee9bf8d3b41dcfeb6b033972d3df140efe446d", func := "alibi/alibkeep.SeqApart", spec := "seqApart", unfollowed := true, recurses := true, apart := false, narrowed := true }
def SeqApartUptoSaid : Prop := seqApartUptoRow.holds Try.pinned (OpenSpec.upto seqApartSpec)

/-- 'alibkeep.LocalWhole', WHERE WHAT IT READS IS OF BULK AT MOST 1048576: true; the input reads as it did. -/
def localWholeUptoRow : OpenClaim := { program := "ytpakplmpihhmbaa", sum := "39f9d14efb2caa95fdbf80e200ee9bf8d3b41dcfeb6b033972d3df140efe446d", func := "alibi/alibkeep.LocalWhole", spec := "localWhole", unfollowed := true, recurses := true, apart := false, narrowed := true }
def LocalWholeUptoSaid : Prop := localWholeUptoRow.holds Try.pinned (OpenSpec.upto localWholeSpec)

/-- 'alibkeep.LocalJoined', WHERE WHAT IT READS IS OF BULK AT MOST 1048576: true; the input reads as it did. -/
def localJoinedUptoRow : OpenClaim := { program := "ytpakplmpihhmbaa", sum := "39f9d14efb2caa95fdbf80e200ee9bf8d3b41dcfeb6b033972d3df140efe446d", func := "alibi/alibkeep.LocalJoined", spec := "localJoined", unfollowed := true, recurses := true, apart := false, narrowed := true }
def LocalJoinedUptoSaid : Prop := localJoinedUptoRow.holds Try.pinned (OpenSpec.upto localJoinedSpec)

/-- 'alibkeep.LocalAny', WHERE WHAT IT READS IS OF BULK AT MOST 1048576: true; the input reads as it did. -/
def localAnyUptoRow : OpenClaim := { program := "ytpakplmpihhmbaa", sum := "39f9d14efb2caa95fdbf80e200ee9bf8d3b41dcfeb6b033972d3df140efe446d", func := "alibi/alibkeep.LocalAny", spec := "localAny", unfollowed := true, recurses := true, apart := false, narrowed := true }
def LocalAnyUptoSaid : Prop := localAnyUptoRow.holds Try.pinned (OpenSpec.upto localAnySpec)

/-- 'alibkeep.CausalStrict', WHERE WHAT IT READS IS OF BULK AT MOST 1048576: true; the input reads as it did. -/
def causalStrictUptoRow : OpenClaim := { program := "ytpakplmpihhmbaa", sum := "39f9d14efb2caa95fdbf80e200ee9bf8d3b41dcfeb6b033972d3df140efe446d", func := "alibi/alibkeep.CausalStrict", spec := "causalStrict", unfollowed := true, recurses := true, apart := false, narrowed := true }
def CausalStrictUptoSaid : Prop := causalStrictUptoRow.holds Try.pinned (OpenSpec.upto causalStrictSpec)

/-- 'alibkeep.CausalAlone', WHERE WHAT IT READS IS OF BULK AT MOST 1048576: true; the input reads as it did. -/
def causalAloneUptoRow : OpenClaim := { program := "ytpakplmpihhmbaa", sum := "39f9d14efb2caa95fdbf80e200ee9bf8d3b41dcfeb6b033972d3df140efe446d", func := "alibi/alibkeep.CausalAlone", spec := "causalAlone", unfollowed := true, recurses := true, apart := false, narrowed := true }
def CausalAloneUptoSaid : Prop := causalAloneUptoRow.holds Try.pinned (OpenSpec.upto causalAloneSpec)

/-- 'alibkeep.CausalWeaker', WHERE WHAT IT READS IS OF BULK AT MOST 1048576: true; the input reads as it did. -/
def causalWeakerUptoRow : OpenClaim := { program := "ytpakplmpihhmbaa", sum := "39f9d14efb2caa95fdbf80e200ee9bf8d3b41dcfeb6b033972d3df140efe446d", func := "alibi/alibkeep.CausalWeaker", spec := "causalWeaker", unfollowed := true, recurses := true, apart := false, narrowed := true }
def CausalWeakerUptoSaid : Prop := causalWeakerUptoRow.holds Try.pinned (OpenSpec.upto causalWeakerSpec)

end Rows
end Go.Proofs.Ytpakplmpihhmbaa
