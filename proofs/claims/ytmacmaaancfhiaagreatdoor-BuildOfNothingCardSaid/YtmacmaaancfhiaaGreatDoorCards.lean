/-
  DERIVED. GIVEN WITH THE SEED: THE CARDS: each row of YtmacmaaancfhiaaGreatDoorRows.lean that lists a variable, with what it lists TIED to the program's text (the seventh form; the later family's looks); each row that meets fmt, with fmt's text TOLD by the authors' own Lean function (tested against real Go, not proved from fmt's source: count such statements apart). THE CARD IS WHAT COUNTS. Prove the row's statement (the work); the ties are given (YtmacmaaancfhiaaGreatDoorTie.lean); close each card by the builder's one call (the guide's Derived/Test/ToyasCard.lean, 'card_holds'). Laid BY PROGRAM, IN A SANDBOX (cutbox-door.mjs). By AI agents, Wed Nov 11 2026. No macro, syntax, notation, axiom, sorry.
-/
import Derived.Test.YtmacmaaancfhiaaGreatDoorRows
import GoSem.ClaimSeven
namespace Go.Proofs.YtmacmaaancfhiaaGreatDoor
namespace Rows

/-- THE TIED CARD OF 'pantrylaw15.BuildOfNothing'. -/
def buildOfNothingCard : Claim7 := { stood := { row := buildOfNothingRow, standIns := [], harness := (true, "856494a7df8e73e76dbc7083cea56abe94aecd91463d4a607844af4fa4baf7d9"), looks := true }, kinds := [], alts := [], laidByText := true, laidKinds := [.data, .data, .data, .data, .pinned], laidTests := true, laidLooks := .later }
def BuildOfNothingCardSaid : Prop := Claim7.holds Tryz.pinned (.plain (OpenSpec.ofChange buildOfNothingSpec)) buildOfNothingCard

/-- THE SECOND FORM's CARD OF 'pantrylaw15.BuildOfNothing'. -/
def buildOfNothingUptoCard : Claim7 := { stood := { row := buildOfNothingUptoRow, standIns := [], harness := (true, "856494a7df8e73e76dbc7083cea56abe94aecd91463d4a607844af4fa4baf7d9"), looks := true }, kinds := [], alts := [], laidByText := true, laidKinds := [.data, .data, .data, .data, .pinned], laidTests := true, laidLooks := .later }
def BuildOfNothingUptoCardSaid : Prop := Claim7.holds Tryz.pinned (.plain (OpenSpec.upto buildOfNothingSpec)) buildOfNothingUptoCard
end Rows
end Go.Proofs.YtmacmaaancfhiaaGreatDoor
