/-
  No cell of these rows narrows 'for every input' (looked for: loops, veiled, ifaces, maps, wideKeys, modest, calm, conditions, laid).
  DERIVED. THE GIVEN ROWS OF THIS SEAT. 4 by the template 'for every input the law returns true; each argument reads behind the call as it read before'; 0 by the template 'total and deterministic' (their statements: YtcefigpdodlonaaTotals.lean).
  GIVEN WITH THE SEED: the statements are not yours to turn. If you find one false, say at which input.
  Laid BY PROGRAM, IN A SANDBOX (cutbox-rows.mjs): the forced cells as the released guide's own fill.sh prints them over the translation 8986b0d19226ec92… (all of the seat's roots in one cut). By AI agents, Wed Nov 11 2026. No macro, syntax, notation, axiom, sorry.
-/
import Derived.Test.YtcefigpdodlonaaChecked
import GoSem.Claim
import GoSem.ClaimJoined
import GoSem.ClaimMapViews
import Derived.JoinedTies
import Derived.KernelRfl
namespace Go.Proofs.Ytcefigpdodlonaa
/- THE CELL 'sum', in the pinned program and in every row, IS THE sha256 OF THE DUMP (.gsa) THAT YtcefigpdodlonaaProg.lean LOADS. Nothing in Lean hashes anything: it is a label: what it is worth is what the hold of that sum in a sandbox is worth. -/
noncomputable def Try.pinned : Pinned := { name := "ytcefigpdodlonaa", sum := "8986b0d19226ec9298daa62d2ec593947b762221c08390f16a8965df211804d4", checked := Try.checked }
namespace Rows
def none {H : Type} : Left H := { results := [], args := [] }

/-- 'cloisterlaw11.DirRuns': WHATEVER THE INPUT: true; the input reads as it did. -/
def dirRunsSpec : ChangeSpec := { name := "dirRuns", fn := fun _ => fun
  | [] => { results := [.lit (.bool true)], args := [] }
  | _ => none }
def dirRunsRow : OpenClaim := { program := "ytcefigpdodlonaa", sum := "8986b0d19226ec9298daa62d2ec593947b762221c08390f16a8965df211804d4", func := "cloister/cloisterlaw11.DirRuns", spec := "dirRuns", inPlace := ["internal/bytealg.IndexByteString", "internal/bytealg.IndexString"], unfollowed := true, recurses := true, named := ["internal/bytealg.MaxLen"], plainKeys := false, apart := false }
def DirRunsSaid : Prop := dirRunsRow.holds Try.pinned (OpenSpec.ofChange dirRunsSpec)

/-- ITS FALSE NEIGHBOUR: 'it returns false'. Refute it at one input. -/
def dirRunsWrong : ChangeSpec := { name := "dirRuns", fn := fun _ => fun
  | [] => { results := [.lit (.bool false)], args := [] }
  | _ => none }
def DirRunsWrongFalsely : Prop := dirRunsRow.holds Try.pinned (OpenSpec.ofChange dirRunsWrong)

/-- 'cloisterlaw11.DirApart': WHATEVER THE INPUT: true; the input reads as it did. -/
def dirApartSpec : ChangeSpec := { name := "dirApart", fn := fun _ => fun
  | [d1, d2] => { results := [.lit (.bool true)], args := [d1, d2] }
  | _ => none }
def dirApartRow : OpenClaim := { program := "ytcefigpdodlonaa", sum := "8986b0d19226ec9298daa62d2ec593947b762221c08390f16a8965df211804d4", func := "cloister/cloisterlaw11.DirApart", spec := "dirApart", inPlace := ["internal/bytealg.IndexByteString", "internal/bytealg.IndexString"], unfollowed := true, recurses := true, named := ["internal/bytealg.MaxLen"], plainKeys := false, apart := false }
def DirApartSaid : Prop := dirApartRow.holds Try.pinned (OpenSpec.ofChange dirApartSpec)

/-- ITS FALSE NEIGHBOUR: 'it returns false'. Refute it at one input. -/
def dirApartWrong : ChangeSpec := { name := "dirApart", fn := fun _ => fun
  | [d1, d2] => { results := [.lit (.bool false)], args := [d1, d2] }
  | _ => none }
def DirApartWrongFalsely : Prop := dirApartRow.holds Try.pinned (OpenSpec.ofChange dirApartWrong)

/-- 'cloisterlaw11.DirTable': WHATEVER THE INPUT: true; the input reads as it did. -/
def dirTableSpec : ChangeSpec := { name := "dirTable", fn := fun _ => fun
  | [d] => { results := [.lit (.bool true)], args := [d] }
  | _ => none }
def dirTableRow : OpenClaim := { program := "ytcefigpdodlonaa", sum := "8986b0d19226ec9298daa62d2ec593947b762221c08390f16a8965df211804d4", func := "cloister/cloisterlaw11.DirTable", spec := "dirTable", inPlace := ["internal/bytealg.IndexByteString", "internal/bytealg.IndexString"], unfollowed := true, recurses := true, named := ["internal/bytealg.MaxLen"], plainKeys := false, apart := false }
def DirTableSaid : Prop := dirTableRow.holds Try.pinned (OpenSpec.ofChange dirTableSpec)

/-- ITS FALSE NEIGHBOUR: 'it returns false'. Refute it at one input. -/
def dirTableWrong : ChangeSpec := { name := "dirTable", fn := fun _ => fun
  | [d] => { results := [.lit (.bool false)], args := [d] }
  | _ => none }
def DirTableWrongFalsely : Prop := dirTableRow.holds Try.pinned (OpenSpec.ofChange dirTableWrong)

/-- 'cloisterlaw11.DirRefuses': WHATEVER THE INPUT: true; the input reads as it did. -/
def dirRefusesSpec : ChangeSpec := { name := "dirRefuses", fn := fun _ => fun
  | [d1, d2, d3] => { results := [.lit (.bool true)], args := [d1, d2, d3] }
  | _ => none }
def dirRefusesRow : OpenClaim := { program := "ytcefigpdodlonaa", sum := "8986b0d19226ec9298daa62d2ec593947b762221c08390f16a8965df211804d4", func := "cloister/cloisterlaw11.DirRefuses", spec := "dirRefuses", inPlace := ["internal/bytealg.IndexByteString", "internal/bytealg.IndexString"], unfollowed := true, recurses := true, named := ["internal/bytealg.MaxLen"], plainKeys := false, apart := false }
def DirRefusesSaid : Prop := dirRefusesRow.holds Try.pinned (OpenSpec.ofChange dirRefusesSpec)

/-- ITS FALSE NEIGHBOUR: 'it returns false'. Refute it at one input. -/
def dirRefusesWrong : ChangeSpec := { name := "dirRefuses", fn := fun _ => fun
  | [d1, d2, d3] => { results := [.lit (.bool false)], args := [d1, d2, d3] }
  | _ => none }
def DirRefusesWrongFalsely : Prop := dirRefusesRow.holds Try.pinned (OpenSpec.ofChange dirRefusesWrong)

/- THE SECOND FORM. 'bulk': how many values and letters a reading holds, each counted each time it is reached (what is shared counts as often as it is met; a slice's spare places count too). A statement '..UptoSaid' is the law's where the arguments, and the package variables that the reading takes, are together of bulk at most 1048576: NARROWER than '..Said'. Prove '..Said' where nothing that the law and all that it calls make is longer than what came in: it says more and counts as full. Else prove '..UptoSaid'. A law counts once. -/
mutual
def uptoBulk {H : Type} : DataW H → Nat
  | .lit (.string bytes) => bytes.length + 1
  | .lit _ => 1
  | .nil => 1
  | .ptr d => uptoBulk d + 1
  | .slice elems spare => uptoBulkAll elems + uptoBulkAll spare + 1
  | .agg parts => uptoBulkAll parts + 1
  | .iface _ d => uptoBulk d + 1
  | .map entries => uptoBulkEntries entries + 1
  | .held _ => 1
def uptoBulkAll {H : Type} : List (DataW H) → Nat
  | [] => 0
  | d :: r => uptoBulk d + uptoBulkAll r
def uptoBulkEntries {H : Type} : List (Lit × DataW H) → Nat
  | [] => 0
  | x :: r => uptoBulkEntry x + uptoBulkEntries r
def uptoBulkEntry {H : Type} : Lit × DataW H → Nat
  | (.string bytes, d) => bytes.length + uptoBulk d + 1
  | (_, d) => uptoBulk d + 1
 end
def uptoSmall : (H : Type) → List (DataW H) → Bool := fun _ ds => decide (uptoBulkAll ds ≤ 1048576)
def OpenSpec.upto (s : _root_.Go.ChangeSpec) : _root_.Go.OpenSpec := { _root_.Go.OpenSpec.ofChange s with cond := some uptoSmall }

/-- 'cloisterlaw11.DirRuns', WHERE WHAT IT READS IS OF BULK AT MOST 1048576: true; the input reads as it did. -/
def dirRunsUptoRow : OpenClaim := { program := "ytcefigpdodlonaa", sum := "8986b0d19226ec9298daa62d2ec593947b762221c08390f16a8965df211804d4", func := "cloister/cloisterlaw11.DirRuns", spec := "dirRuns", inPlace := ["internal/bytealg.IndexByteString", "internal/bytealg.IndexString"], unfollowed := true, recurses := true, named := ["internal/bytealg.MaxLen"], plainKeys := false, apart := false, narrowed := true }
def DirRunsUptoSaid : Prop := dirRunsUptoRow.holds Try.pinned (OpenSpec.upto dirRunsSpec)

/-- 'cloisterlaw11.DirApart', WHERE WHAT IT READS IS OF BULK AT MOST 1048576: true; the input reads as it did. -/
def dirApartUptoRow : OpenClaim := { program := "ytcefigpdodlonaa", sum := "8986b0d19226ec9298daa62d2ec593947b762221c08390f16a8965df211804d4", func := "cloister/cloisterlaw11.DirApart", spec := "dirApart", inPlace := ["internal/bytealg.IndexByteString", "internal/bytealg.IndexString"], unfollowed := true, recurses := true, named := ["internal/bytealg.MaxLen"], plainKeys := false, apart := false, narrowed := true }
def DirApartUptoSaid : Prop := dirApartUptoRow.holds Try.pinned (OpenSpec.upto dirApartSpec)

/-- 'cloisterlaw11.DirTable', WHERE WHAT IT READS IS OF BULK AT MOST 1048576: true; the input reads as it did. -/
def dirTableUptoRow : OpenClaim := { program := "ytcefigpdodlonaa", sum := "8986b0d19226ec9298daa62d2ec593947b762221c08390f16a8965df211804d4", func := "cloister/cloisterlaw11.DirTable", spec := "dirTable", inPlace := ["internal/bytealg.IndexByteString", "internal/bytealg.IndexString"], unfollowed := true, recurses := true, named := ["internal/bytealg.MaxLen"], plainKeys := false, apart := false, narrowed := true }
def DirTableUptoSaid : Prop := dirTableUptoRow.holds Try.pinned (OpenSpec.upto dirTableSpec)

/-- 'cloisterlaw11.DirRefuses', WHERE WHAT IT READS IS OF BULK AT MOST 1048576: true; the input reads as it did. -/
def dirRefusesUptoRow : OpenClaim := { program := "ytcefigpdodlonaa", sum := "8986b0d19226ec9298daa62d2ec593947b762221c08390f16a8965df211804d4", func := "cloister/cloisterlaw11.DirRefuses", spec := "dirRefuses", inPlace := ["internal/bytealg.IndexByteString", "internal/bytealg.IndexString"], unfollowed := true, recurses := true, named := ["internal/bytealg.MaxLen"], plainKeys := false, apart := false, narrowed := true }
def DirRefusesUptoSaid : Prop := dirRefusesUptoRow.holds Try.pinned (OpenSpec.upto dirRefusesSpec)

end Rows
end Go.Proofs.Ytcefigpdodlonaa
