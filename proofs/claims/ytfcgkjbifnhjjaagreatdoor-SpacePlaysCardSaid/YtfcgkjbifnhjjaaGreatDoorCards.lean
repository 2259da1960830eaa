/-
  DERIVED. GIVEN WITH THE SEED: THE CARDS: each row of YtfcgkjbifnhjjaaGreatDoorRows.lean that lists a variable, with what it lists TIED to the program's text (the seventh form; the later family's looks); each row that meets fmt, with fmt's text TOLD by the authors' own Lean function (tested against real Go, not proved from fmt's source: count such statements apart). THE CARD IS WHAT COUNTS. Prove the row's statement (the work); the ties are given (YtfcgkjbifnhjjaaGreatDoorTie.lean); close each card by the builder's one call (the guide's Derived/Test/ToyasCard.lean, 'card_holds'). Laid BY PROGRAM, IN A SANDBOX (cutbox-door.mjs). By AI agents, Wed Nov 11 2026. No macro, syntax, notation, axiom, sorry.
-/
import Derived.Test.YtfcgkjbifnhjjaaGreatDoorRows
import GoSem.ClaimSeven
namespace Go.Proofs.YtfcgkjbifnhjjaaGreatDoor
namespace Rows

/-- THE TIED CARD OF 'cloisterlaw16.SpacePlays'. -/
def spacePlaysCard : Claim7 := { stood := { row := spacePlaysRow, standIns := [], harness := (true, "b29a30c6c48eaadcd4f97729c8723bd6383761c7beb10b65a239dc0f674c2370"), looks := false }, kinds := [], alts := [], laidByText := true, laidKinds := [.data], laidTests := true, laidLooks := .later }
def SpacePlaysCardSaid : Prop := Claim7.holds Tryz.pinned (.plain (OpenSpec.ofChange spacePlaysSpec)) spacePlaysCard

/-- THE TIED CARD OF 'cloisterlaw12.PathTells'. -/
def pathTellsCard : Claim7 := { stood := { row := pathTellsRow, standIns := [], harness := (true, "b29a30c6c48eaadcd4f97729c8723bd6383761c7beb10b65a239dc0f674c2370"), looks := false }, kinds := [], alts := [], laidByText := true, laidKinds := [.data, .pinned], laidTests := true, laidLooks := .later }
def PathTellsCardSaid : Prop := Claim7.holds Tryz.pinned (.plain (OpenSpec.ofChange pathTellsSpec)) pathTellsCard

/-- THE SECOND FORM's CARD OF 'cloisterlaw16.SpacePlays'. -/
def spacePlaysUptoCard : Claim7 := { stood := { row := spacePlaysUptoRow, standIns := [], harness := (true, "b29a30c6c48eaadcd4f97729c8723bd6383761c7beb10b65a239dc0f674c2370"), looks := false }, kinds := [], alts := [], laidByText := true, laidKinds := [.data], laidTests := true, laidLooks := .later }
def SpacePlaysUptoCardSaid : Prop := Claim7.holds Tryz.pinned (.plain (OpenSpec.upto spacePlaysSpec)) spacePlaysUptoCard

/-- THE SECOND FORM's CARD OF 'cloisterlaw12.PathTells'. -/
def pathTellsUptoCard : Claim7 := { stood := { row := pathTellsUptoRow, standIns := [], harness := (true, "b29a30c6c48eaadcd4f97729c8723bd6383761c7beb10b65a239dc0f674c2370"), looks := false }, kinds := [], alts := [], laidByText := true, laidKinds := [.data, .pinned], laidTests := true, laidLooks := .later }
def PathTellsUptoCardSaid : Prop := Claim7.holds Tryz.pinned (.plain (OpenSpec.upto pathTellsSpec)) pathTellsUptoCard
end Rows
end Go.Proofs.YtfcgkjbifnhjjaaGreatDoor
