/-
  DERIVED. GIVEN WITH THE SEED: THE CARDS: each row of YtcefigpdodlonaaDoorRows.lean that lists a variable, with what it lists TIED to the program's text (the seventh form; the later family's looks); each row that meets fmt, with fmt's text TOLD by the authors' own Lean function (tested against real Go, not proved from fmt's source: count such statements apart). THE CARD IS WHAT COUNTS. Prove the row's statement (the work); the ties are given (YtcefigpdodlonaaDoorTie.lean); close each card by the builder's one call (the guide's Derived/Test/ToyasCard.lean, 'card_holds'). Laid BY PROGRAM, IN A SANDBOX (cutbox-door.mjs). By AI agents, Wed Nov 11 2026. No macro, syntax, notation, axiom, sorry.
-/
import Derived.Test.YtcefigpdodlonaaDoorRows
import GoSem.ClaimSeven
namespace Go.Proofs.YtcefigpdodlonaaDoor
namespace Rows

/-- THE TIED CARD OF 'cloisterlaw12.PathRuns'. -/
def pathRunsCard : Claim7 := { stood := { row := pathRunsRow, standIns := [], harness := (true, "0a61eac49e6735b7754315f617a0f45cc2280d7ee344281a230f6d1ea3c9d514"), looks := false }, kinds := [], alts := [], laidByText := true, laidKinds := [.data, .pinned], laidTests := true, laidLooks := .later }
def PathRunsCardSaid : Prop := Claim7.holds Tryd.pinned (.plain (OpenSpec.ofChange pathRunsSpec)) pathRunsCard

/-- THE TIED CARD OF 'cloisterlaw12.PathSteps'. -/
def pathStepsCard : Claim7 := { stood := { row := pathStepsRow, standIns := [], harness := (true, "0a61eac49e6735b7754315f617a0f45cc2280d7ee344281a230f6d1ea3c9d514"), looks := false }, kinds := [], alts := [], laidByText := true, laidKinds := [.data, .pinned], laidTests := true, laidLooks := .later }
def PathStepsCardSaid : Prop := Claim7.holds Tryd.pinned (.plain (OpenSpec.ofChange pathStepsSpec)) pathStepsCard

/-- THE TIED CARD OF 'cloisterlaw12.PathRoot'. -/
def pathRootCard : Claim7 := { stood := { row := pathRootRow, standIns := [], harness := (true, "0a61eac49e6735b7754315f617a0f45cc2280d7ee344281a230f6d1ea3c9d514"), looks := false }, kinds := [], alts := [], laidByText := true, laidKinds := [.data, .pinned], laidTests := true, laidLooks := .later }
def PathRootCardSaid : Prop := Claim7.holds Tryd.pinned (.plain (OpenSpec.ofChange pathRootSpec)) pathRootCard

/-- THE SECOND FORM's CARD OF 'cloisterlaw12.PathRuns'. -/
def pathRunsUptoCard : Claim7 := { stood := { row := pathRunsUptoRow, standIns := [], harness := (true, "0a61eac49e6735b7754315f617a0f45cc2280d7ee344281a230f6d1ea3c9d514"), looks := false }, kinds := [], alts := [], laidByText := true, laidKinds := [.data, .pinned], laidTests := true, laidLooks := .later }
def PathRunsUptoCardSaid : Prop := Claim7.holds Tryd.pinned (.plain (OpenSpec.upto pathRunsSpec)) pathRunsUptoCard

/-- THE SECOND FORM's CARD OF 'cloisterlaw12.PathSteps'. -/
def pathStepsUptoCard : Claim7 := { stood := { row := pathStepsUptoRow, standIns := [], harness := (true, "0a61eac49e6735b7754315f617a0f45cc2280d7ee344281a230f6d1ea3c9d514"), looks := false }, kinds := [], alts := [], laidByText := true, laidKinds := [.data, .pinned], laidTests := true, laidLooks := .later }
def PathStepsUptoCardSaid : Prop := Claim7.holds Tryd.pinned (.plain (OpenSpec.upto pathStepsSpec)) pathStepsUptoCard

/-- THE SECOND FORM's CARD OF 'cloisterlaw12.PathRoot'. -/
def pathRootUptoCard : Claim7 := { stood := { row := pathRootUptoRow, standIns := [], harness := (true, "0a61eac49e6735b7754315f617a0f45cc2280d7ee344281a230f6d1ea3c9d514"), looks := false }, kinds := [], alts := [], laidByText := true, laidKinds := [.data, .pinned], laidTests := true, laidLooks := .later }
def PathRootUptoCardSaid : Prop := Claim7.holds Tryd.pinned (.plain (OpenSpec.upto pathRootSpec)) pathRootUptoCard
end Rows
end Go.Proofs.YtcefigpdodlonaaDoor
