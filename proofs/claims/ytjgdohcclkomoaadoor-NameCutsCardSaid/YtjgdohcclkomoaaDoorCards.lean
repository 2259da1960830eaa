/-
  DERIVED. GIVEN WITH THE SEED: THE CARDS: each row of YtjgdohcclkomoaaDoorRows.lean that lists a variable, with what it lists TIED to the program's text (the seventh form; the later family's looks); each row that meets fmt, with fmt's text TOLD by the authors' own Lean function (tested against real Go, not proved from fmt's source: count such statements apart). THE CARD IS WHAT COUNTS. Prove the row's statement (the work); the ties are given (YtjgdohcclkomoaaDoorTie.lean); close each card by the builder's one call (the guide's Derived/Test/ToyasCard.lean, 'card_holds'). Laid BY PROGRAM, IN A SANDBOX (cutbox-door.mjs). By AI agents, Wed Nov 11 2026. No macro, syntax, notation, axiom, sorry.
-/
import Derived.Test.YtjgdohcclkomoaaDoorRows
import GoSem.ClaimSeven
namespace Go.Proofs.YtjgdohcclkomoaaDoor
namespace Rows

/-- THE TIED CARD OF 'cloisterlaw9.NameRuns'. -/
def nameRunsCard : Claim7 := { stood := { row := nameRunsRow, standIns := [], harness := (true, "3a153871a9183fff4f9070a0295ddefb22e69c347cb23029c0dc4ea7334385b4"), looks := false }, kinds := [], alts := [], laidByText := true, laidKinds := [.data, .pinned], laidTests := true, laidLooks := .later }
def NameRunsCardSaid : Prop := Claim7.holds Tryd.pinned (.plain (OpenSpec.ofChange nameRunsSpec)) nameRunsCard

/-- THE TIED CARD OF 'cloisterlaw9.NameTells'. -/
def nameTellsCard : Claim7 := { stood := { row := nameTellsRow, standIns := [], harness := (true, "3a153871a9183fff4f9070a0295ddefb22e69c347cb23029c0dc4ea7334385b4"), looks := false }, kinds := [], alts := [], laidByText := true, laidKinds := [.data, .pinned], laidTests := true, laidLooks := .later }
def NameTellsCardSaid : Prop := Claim7.holds Tryd.pinned (.plain (OpenSpec.ofChange nameTellsSpec)) nameTellsCard

/-- THE TIED CARD OF 'cloisterlaw9.NameBack'. -/
def nameBackCard : Claim7 := { stood := { row := nameBackRow, standIns := [], harness := (true, "3a153871a9183fff4f9070a0295ddefb22e69c347cb23029c0dc4ea7334385b4"), looks := false }, kinds := [], alts := [], laidByText := true, laidKinds := [.data, .pinned], laidTests := true, laidLooks := .later }
def NameBackCardSaid : Prop := Claim7.holds Tryd.pinned (.plain (OpenSpec.ofChange nameBackSpec)) nameBackCard

/-- THE TIED CARD OF 'cloisterlaw9.NameJoin'. -/
def nameJoinCard : Claim7 := { stood := { row := nameJoinRow, standIns := [], harness := (true, "3a153871a9183fff4f9070a0295ddefb22e69c347cb23029c0dc4ea7334385b4"), looks := false }, kinds := [], alts := [], laidByText := true, laidKinds := [.data, .pinned], laidTests := true, laidLooks := .later }
def NameJoinCardSaid : Prop := Claim7.holds Tryd.pinned (.plain (OpenSpec.ofChange nameJoinSpec)) nameJoinCard

/-- THE TIED CARD OF 'cloisterlaw9.NameCuts'. -/
def nameCutsCard : Claim7 := { stood := { row := nameCutsRow, standIns := [], harness := (true, "3a153871a9183fff4f9070a0295ddefb22e69c347cb23029c0dc4ea7334385b4"), looks := false }, kinds := [], alts := [], laidByText := true, laidKinds := [.data, .pinned], laidTests := true, laidLooks := .later }
def NameCutsCardSaid : Prop := Claim7.holds Tryd.pinned (.plain (OpenSpec.ofChange nameCutsSpec)) nameCutsCard

/-- THE SECOND FORM's CARD OF 'cloisterlaw9.NameRuns'. -/
def nameRunsUptoCard : Claim7 := { stood := { row := nameRunsUptoRow, standIns := [], harness := (true, "3a153871a9183fff4f9070a0295ddefb22e69c347cb23029c0dc4ea7334385b4"), looks := false }, kinds := [], alts := [], laidByText := true, laidKinds := [.data, .pinned], laidTests := true, laidLooks := .later }
def NameRunsUptoCardSaid : Prop := Claim7.holds Tryd.pinned (.plain (OpenSpec.upto nameRunsSpec)) nameRunsUptoCard

/-- THE SECOND FORM's CARD OF 'cloisterlaw9.NameTells'. -/
def nameTellsUptoCard : Claim7 := { stood := { row := nameTellsUptoRow, standIns := [], harness := (true, "3a153871a9183fff4f9070a0295ddefb22e69c347cb23029c0dc4ea7334385b4"), looks := false }, kinds := [], alts := [], laidByText := true, laidKinds := [.data, .pinned], laidTests := true, laidLooks := .later }
def NameTellsUptoCardSaid : Prop := Claim7.holds Tryd.pinned (.plain (OpenSpec.upto nameTellsSpec)) nameTellsUptoCard

/-- THE SECOND FORM's CARD OF 'cloisterlaw9.NameBack'. -/
def nameBackUptoCard : Claim7 := { stood := { row := nameBackUptoRow, standIns := [], harness := (true, "3a153871a9183fff4f9070a0295ddefb22e69c347cb23029c0dc4ea7334385b4"), looks := false }, kinds := [], alts := [], laidByText := true, laidKinds := [.data, .pinned], laidTests := true, laidLooks := .later }
def NameBackUptoCardSaid : Prop := Claim7.holds Tryd.pinned (.plain (OpenSpec.upto nameBackSpec)) nameBackUptoCard

/-- THE SECOND FORM's CARD OF 'cloisterlaw9.NameJoin'. -/
def nameJoinUptoCard : Claim7 := { stood := { row := nameJoinUptoRow, standIns := [], harness := (true, "3a153871a9183fff4f9070a0295ddefb22e69c347cb23029c0dc4ea7334385b4"), looks := false }, kinds := [], alts := [], laidByText := true, laidKinds := [.data, .pinned], laidTests := true, laidLooks := .later }
def NameJoinUptoCardSaid : Prop := Claim7.holds Tryd.pinned (.plain (OpenSpec.upto nameJoinSpec)) nameJoinUptoCard

/-- THE SECOND FORM's CARD OF 'cloisterlaw9.NameCuts'. -/
def nameCutsUptoCard : Claim7 := { stood := { row := nameCutsUptoRow, standIns := [], harness := (true, "3a153871a9183fff4f9070a0295ddefb22e69c347cb23029c0dc4ea7334385b4"), looks := false }, kinds := [], alts := [], laidByText := true, laidKinds := [.data, .pinned], laidTests := true, laidLooks := .later }
def NameCutsUptoCardSaid : Prop := Claim7.holds Tryd.pinned (.plain (OpenSpec.upto nameCutsSpec)) nameCutsUptoCard
end Rows
end Go.Proofs.YtjgdohcclkomoaaDoor
