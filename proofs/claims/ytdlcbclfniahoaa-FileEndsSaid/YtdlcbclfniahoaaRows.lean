/-
  No cell of these rows narrows 'for every input' (looked for: loops, veiled, ifaces, maps, wideKeys, modest, calm, conditions, laid).
  DERIVED. THE GIVEN ROWS OF THIS SEAT. 4 by the template 'for every input the law returns true; each argument reads behind the call as it read before'; 0 by the template 'total and deterministic' (their statements: YtdlcbclfniahoaaTotals.lean).
  GIVEN WITH THE SEED: the statements are not yours to turn. If you find one false, say at which input.
  Laid BY PROGRAM, IN A SANDBOX (cutbox-rows.mjs): the forced cells as the released guide's own fill.sh prints them over the translation fb5aec16036d41ea… (all of the seat's roots in one cut). By AI agents, Wed Nov 11 2026. No macro, syntax, notation, axiom, sorry.
-/
import Derived.Test.YtdlcbclfniahoaaChecked
import GoSem.Claim
import GoSem.ClaimJoined
import GoSem.ClaimMapViews
import Derived.JoinedTies
import Derived.KernelRfl
namespace Go.Proofs.Ytdlcbclfniahoaa
/- THE CELL 'sum', in the pinned program and in every row, IS THE sha256 OF THE DUMP (.gsa) THAT YtdlcbclfniahoaaProg.lean LOADS. Nothing in Lean hashes anything: it is a label: what it is worth is what the hold of that sum in a sandbox is worth. -/
noncomputable def Try.pinned : Pinned := { name := "ytdlcbclfniahoaa", sum := "fb5aec16036d41ea00fe769be0e02861aa1ab62e469ad68a813b85e5be8eeeb5", checked := Try.checked }
namespace Rows
def none {H : Type} : Left H := { results := [], args := [] }

/-- 'cloisterlaw14.FileRuns': WHATEVER THE INPUT: true; the input reads as it did. -/
def fileRunsSpec : ChangeSpec := { name := "fileRuns", fn := fun _ => fun
  | [] => { results := [.lit (.bool true)], args := [] }
  | _ => none }
def fileRunsRow : OpenClaim := { program := "ytdlcbclfniahoaa", sum := "fb5aec16036d41ea00fe769be0e02861aa1ab62e469ad68a813b85e5be8eeeb5", func := "cloister/cloisterlaw14.FileRuns", spec := "fileRuns", plainKeys := false, apart := false }
def FileRunsSaid : Prop := fileRunsRow.holds Try.pinned (OpenSpec.ofChange fileRunsSpec)

/-- ITS FALSE NEIGHBOUR: 'it returns false'. Refute it at one input. -/
def fileRunsWrong : ChangeSpec := { name := "fileRuns", fn := fun _ => fun
  | [] => { results := [.lit (.bool false)], args := [] }
  | _ => none }
def FileRunsWrongFalsely : Prop := fileRunsRow.holds Try.pinned (OpenSpec.ofChange fileRunsWrong)

/-- 'cloisterlaw14.FileShares': WHATEVER THE INPUT: true; the input reads as it did. -/
def fileSharesSpec : ChangeSpec := { name := "fileShares", fn := fun _ => fun
  | [d1, d2] => { results := [.lit (.bool true)], args := [d1, d2] }
  | _ => none }
def fileSharesRow : OpenClaim := { program := "ytdlcbclfniahoaa", sum := "fb5aec16036d41ea00fe769be0e02861aa1ab62e469ad68a813b85e5be8eeeb5", func := "cloister/cloisterlaw14.FileShares", spec := "fileShares", plainKeys := false, apart := false }
def FileSharesSaid : Prop := fileSharesRow.holds Try.pinned (OpenSpec.ofChange fileSharesSpec)

/-- ITS FALSE NEIGHBOUR: 'it returns false'. Refute it at one input. -/
def fileSharesWrong : ChangeSpec := { name := "fileShares", fn := fun _ => fun
  | [d1, d2] => { results := [.lit (.bool false)], args := [d1, d2] }
  | _ => none }
def FileSharesWrongFalsely : Prop := fileSharesRow.holds Try.pinned (OpenSpec.ofChange fileSharesWrong)

/-- 'cloisterlaw14.FileMany': WHATEVER THE INPUT: true; the input reads as it did. -/
def fileManySpec : ChangeSpec := { name := "fileMany", fn := fun _ => fun
  | [d1, d2] => { results := [.lit (.bool true)], args := [d1, d2] }
  | _ => none }
def fileManyRow : OpenClaim := { program := "ytdlcbclfniahoaa", sum := "fb5aec16036d41ea00fe769be0e02861aa1ab62e469ad68a813b85e5be8eeeb5", func := "cloister/cloisterlaw14.FileMany", spec := "fileMany", plainKeys := false, apart := false }
def FileManySaid : Prop := fileManyRow.holds Try.pinned (OpenSpec.ofChange fileManySpec)

/-- ITS FALSE NEIGHBOUR: 'it returns false'. Refute it at one input. -/
def fileManyWrong : ChangeSpec := { name := "fileMany", fn := fun _ => fun
  | [d1, d2] => { results := [.lit (.bool false)], args := [d1, d2] }
  | _ => none }
def FileManyWrongFalsely : Prop := fileManyRow.holds Try.pinned (OpenSpec.ofChange fileManyWrong)

/-- 'cloisterlaw14.FileEnds': WHATEVER THE INPUT: true; the input reads as it did. -/
def fileEndsSpec : ChangeSpec := { name := "fileEnds", fn := fun _ => fun
  | [d1, d2, d3] => { results := [.lit (.bool true)], args := [d1, d2, d3] }
  | _ => none }
def fileEndsRow : OpenClaim := { program := "ytdlcbclfniahoaa", sum := "fb5aec16036d41ea00fe769be0e02861aa1ab62e469ad68a813b85e5be8eeeb5", func := "cloister/cloisterlaw14.FileEnds", spec := "fileEnds", plainKeys := false, apart := false }
def FileEndsSaid : Prop := fileEndsRow.holds Try.pinned (OpenSpec.ofChange fileEndsSpec)

/-- ITS FALSE NEIGHBOUR: 'it returns false'. Refute it at one input. -/
def fileEndsWrong : ChangeSpec := { name := "fileEnds", fn := fun _ => fun
  | [d1, d2, d3] => { results := [.lit (.bool false)], args := [d1, d2, d3] }
  | _ => none }
def FileEndsWrongFalsely : Prop := fileEndsRow.holds Try.pinned (OpenSpec.ofChange fileEndsWrong)

/- THE SECOND FORM. 'bulk': how many values and letters a reading holds, each counted each time it is reached (what is shared counts as often as it is met; a slice's spare places count too). A statement '..UptoSaid' is the law's where the arguments, and the package variables that the reading takes, are together of bulk at most 1048576: NARROWER than '..Said'. Prove '..Said' where nothing that the law and all that it calls make is longer than what came in: it says more and counts as full. Else prove '..UptoSaid'. A law counts once. -/
mutual
def uptoBulk {H : Type} : DataW H → Nat
  | .lit (.string bytes) => bytes.length + 1
  | .lit _ => 1
  | .nil => 1
  | .ptr d => uptoBulk d + 1
  | .slice elems spare => uptoBulkAll elems + uptoBulkAll spare + 1
  | .agg parts => uptoBulkAll parts + 1
  | .iface _ d => uptoBulk d + 1
  | .map entries => uptoBulkEntries entries + 1
  | .held _ => 1
def uptoBulkAll {H : Type} : List (DataW H) → Nat
  | [] => 0
  | d :: r => uptoBulk d + uptoBulkAll r
def uptoBulkEntries {H : Type} : List (Lit × DataW H) → Nat
  | [] => 0
  | x :: r => uptoBulkEntry x + uptoBulkEntries r
def uptoBulkEntry {H : Type} : Lit × DataW H → Nat
  | (.string bytes, d) => bytes.length + uptoBulk d + 1
  | (_, d) => uptoBulk d + 1
 end
def uptoSmall : (H : Type) → List (DataW H) → Bool := fun _ ds => decide (uptoBulkAll ds ≤ 1048576)
def OpenSpec.upto (s : _root_.Go.ChangeSpec) : _root_.Go.OpenSpec := { _root_.Go.OpenSpec.ofChange s with cond := some uptoSmall }

/-- 'cloisterlaw14.FileRuns', WHERE WHAT IT READS IS OF BULK AT MOST 1048576: true; the input reads as it did. -/
def fileRunsUptoRow : OpenClaim := { program := "ytdlcbclfniahoaa", sum := "fb5aec16036d41ea00fe769be0e02861aa1ab62e469ad68a813b85e5be8eeeb5", func := "cloister/cloisterlaw14.FileRuns", spec := "fileRuns", plainKeys := false, apart := false, narrowed := true }
def FileRunsUptoSaid : Prop := fileRunsUptoRow.holds Try.pinned (OpenSpec.upto fileRunsSpec)

/-- 'cloisterlaw14.FileShares', WHERE WHAT IT READS IS OF BULK AT MOST 1048576: true; the input reads as it did. -/
def fileSharesUptoRow : OpenClaim := { program := "ytdlcbclfniahoaa", sum := "fb5aec16036d41ea00fe769be0e02861aa1ab62e469ad68a813b85e5be8eeeb5", func := "cloister/cloisterlaw14.FileShares", spec := "fileShares", plainKeys := false, apart := false, narrowed := true }
def FileSharesUptoSaid : Prop := fileSharesUptoRow.holds Try.pinned (OpenSpec.upto fileSharesSpec)

/-- 'cloisterlaw14.FileMany', WHERE WHAT IT READS IS OF BULK AT MOST 1048576: true; the input reads as it did. -/
def fileManyUptoRow : OpenClaim := { program := "ytdlcbclfniahoaa", sum := "fb5aec16036d41ea00fe769be0e02861aa1ab62e469ad68a813b85e5be8eeeb5", func := "cloister/cloisterlaw14.FileMany", spec := "fileMany", plainKeys := false, apart := false, narrowed := true }
def FileManyUptoSaid : Prop := fileManyUptoRow.holds Try.pinned (OpenSpec.upto fileManySpec)

/-- 'cloisterlaw14.FileEnds', WHERE WHAT IT READS IS OF BULK AT MOST 1048576: true; the input reads as it did. -/
def fileEndsUptoRow : OpenClaim := { program := "ytdlcbclfniahoaa", sum := "fb5aec16036d41ea00fe769be0e02861aa1ab62e469ad68a813b85e5be8eeeb5", func := "cloister/cloisterlaw14.FileEnds", spec := "fileEnds", plainKeys := false, apart := false, narrowed := true }
def FileEndsUptoSaid : Prop := fileEndsUptoRow.holds Try.pinned (OpenSpec.upto fileEndsSpec)

end Rows
end Go.Proofs.Ytdlcbclfniahoaa
