/-
  DERIVED. GIVEN WITH THE SEED: THE CARDS: each row of YtdlcbclfniahoaaDoorRows.lean that lists a variable, with what it lists TIED to the program's text (the seventh form; the later family's looks); each row that meets fmt, with fmt's text TOLD by the authors' own Lean function (tested against real Go, not proved from fmt's source: count such statements apart). THE CARD IS WHAT COUNTS. Prove the row's statement (the work); the ties are given (YtdlcbclfniahoaaDoorTie.lean); close each card by the builder's one call (the guide's Derived/Test/ToyasCard.lean, 'card_holds'). Laid BY PROGRAM, IN A SANDBOX (cutbox-door.mjs). By AI agents, Wed Nov 11 2026. No macro, syntax, notation, axiom, sorry.
-/
import Derived.Test.YtdlcbclfniahoaaDoorRows
import GoSem.ClaimSeven
namespace Go.Proofs.YtdlcbclfniahoaaDoor
namespace Rows

/-- THE TIED CARD OF 'cloisterlaw16.SpaceRuns'. -/
def spaceRunsCard : Claim7 := { stood := { row := spaceRunsRow, standIns := [], harness := (true, "d882c00f0545e11d3f6fc6fc6936c564b34e1e397072bc4a773612ce33150159"), looks := false }, kinds := [], alts := [], laidByText := true, laidKinds := [.data], laidTests := true, laidLooks := .later }
def SpaceRunsCardSaid : Prop := Claim7.holds Tryd.pinned (.plain (OpenSpec.ofChange spaceRunsSpec)) spaceRunsCard

/-- THE TIED CARD OF 'cloisterlaw16.SpaceOwners'. -/
def spaceOwnersCard : Claim7 := { stood := { row := spaceOwnersRow, standIns := [], harness := (true, "d882c00f0545e11d3f6fc6fc6936c564b34e1e397072bc4a773612ce33150159"), looks := false }, kinds := [], alts := [], laidByText := true, laidKinds := [.data], laidTests := true, laidLooks := .later }
def SpaceOwnersCardSaid : Prop := Claim7.holds Tryd.pinned (.plain (OpenSpec.ofChange spaceOwnersSpec)) spaceOwnersCard

/-- THE TIED CARD OF 'cloisterlaw16.SpaceMemory'. -/
def spaceMemoryCard : Claim7 := { stood := { row := spaceMemoryRow, standIns := [], harness := (true, "d882c00f0545e11d3f6fc6fc6936c564b34e1e397072bc4a773612ce33150159"), looks := false }, kinds := [], alts := [], laidByText := true, laidKinds := [.data], laidTests := true, laidLooks := .later }
def SpaceMemoryCardSaid : Prop := Claim7.holds Tryd.pinned (.plain (OpenSpec.ofChange spaceMemorySpec)) spaceMemoryCard

/-- THE TIED CARD OF 'cloisterlaw16.SpaceRefuses'. -/
def spaceRefusesCard : Claim7 := { stood := { row := spaceRefusesRow, standIns := [], harness := (true, "d882c00f0545e11d3f6fc6fc6936c564b34e1e397072bc4a773612ce33150159"), looks := false }, kinds := [], alts := [], laidByText := true, laidKinds := [.data], laidTests := true, laidLooks := .later }
def SpaceRefusesCardSaid : Prop := Claim7.holds Tryd.pinned (.plain (OpenSpec.ofChange spaceRefusesSpec)) spaceRefusesCard

/-- THE SECOND FORM's CARD OF 'cloisterlaw16.SpaceRuns'. -/
def spaceRunsUptoCard : Claim7 := { stood := { row := spaceRunsUptoRow, standIns := [], harness := (true, "d882c00f0545e11d3f6fc6fc6936c564b34e1e397072bc4a773612ce33150159"), looks := false }, kinds := [], alts := [], laidByText := true, laidKinds := [.data], laidTests := true, laidLooks := .later }
def SpaceRunsUptoCardSaid : Prop := Claim7.holds Tryd.pinned (.plain (OpenSpec.upto spaceRunsSpec)) spaceRunsUptoCard

/-- THE SECOND FORM's CARD OF 'cloisterlaw16.SpaceOwners'. -/
def spaceOwnersUptoCard : Claim7 := { stood := { row := spaceOwnersUptoRow, standIns := [], harness := (true, "d882c00f0545e11d3f6fc6fc6936c564b34e1e397072bc4a773612ce33150159"), looks := false }, kinds := [], alts := [], laidByText := true, laidKinds := [.data], laidTests := true, laidLooks := .later }
def SpaceOwnersUptoCardSaid : Prop := Claim7.holds Tryd.pinned (.plain (OpenSpec.upto spaceOwnersSpec)) spaceOwnersUptoCard

/-- THE SECOND FORM's CARD OF 'cloisterlaw16.SpaceMemory'. -/
def spaceMemoryUptoCard : Claim7 := { stood := { row := spaceMemoryUptoRow, standIns := [], harness := (true, "d882c00f0545e11d3f6fc6fc6936c564b34e1e397072bc4a773612ce33150159"), looks := false }, kinds := [], alts := [], laidByText := true, laidKinds := [.data], laidTests := true, laidLooks := .later }
def SpaceMemoryUptoCardSaid : Prop := Claim7.holds Tryd.pinned (.plain (OpenSpec.upto spaceMemorySpec)) spaceMemoryUptoCard

/-- THE SECOND FORM's CARD OF 'cloisterlaw16.SpaceRefuses'. -/
def spaceRefusesUptoCard : Claim7 := { stood := { row := spaceRefusesUptoRow, standIns := [], harness := (true, "d882c00f0545e11d3f6fc6fc6936c564b34e1e397072bc4a773612ce33150159"), looks := false }, kinds := [], alts := [], laidByText := true, laidKinds := [.data], laidTests := true, laidLooks := .later }
def SpaceRefusesUptoCardSaid : Prop := Claim7.holds Tryd.pinned (.plain (OpenSpec.upto spaceRefusesSpec)) spaceRefusesUptoCard
end Rows
end Go.Proofs.YtdlcbclfniahoaaDoor
