/-
  No cell of these rows narrows 'for every input' (looked for: loops, veiled, ifaces, maps, wideKeys, modest, calm, conditions, laid).
  DERIVED. THE GIVEN ROWS OF THIS SEAT. 10 by the template 'for every input the law returns true; each argument reads behind the call as it read before'; 0 by the template 'total and deterministic' (their statements: YtamkkgmflconaaaTotals.lean).
  GIVEN WITH THE SEED: the statements are not yours to turn. If you find one false, say at which input.
  Laid BY PROGRAM, IN A SANDBOX (cutbox-rows.mjs): the forced cells as the released guide's own fill.sh prints them over the translation 72765e8c47c3e476… (all of the seat's roots in one cut). By AI agents, Wed Nov 11 2026. No macro, syntax, notation, axiom, sorry.
-/
import Derived.Test.YtamkkgmflconaaaChecked
import GoSem.Claim
import GoSem.ClaimJoined
import GoSem.ClaimMapViews
import Derived.JoinedTies
import Derived.KernelRfl
namespace Go.Proofs.Ytamkkgmflconaaa
/- THE CELL 'sum', in the pinned program and in every row, IS THE sha256 OF THE DUMP (.gsa) THAT YtamkkgmflconaaaProg.lean LOADS. Nothing in Lean hashes anything: it is a label: what it is worth is what the hold of that sum in a sandbox is worth. -/
noncomputable def Try.pinned : Pinned := { name := "ytamkkgmflconaaa", sum := "72765e8c47c3e476b8b006fdf41d2432cee162f11e799c431f3dd0cff5aadf1e", checked := Try.checked }
namespace Rows
def none {H : Type} : Left H := { results := [], args := [] }

/-- 'cloisterlaw10.InodeRuns': WHATEVER THE INPUT: true; the input reads as it did. -/
def inodeRunsSpec : ChangeSpec := { name := "inodeRuns", fn := fun _ => fun
  | [] => { results := [.lit (.bool true)], args := [] }
  | _ => none }
def inodeRunsRow : OpenClaim := { program := "ytamkkgmflconaaa", sum := "72765e8c47c3e476b8b006fdf41d2432cee162f11e799c431f3dd0cff5aadf1e", func := "cloister/cloisterlaw10.InodeRuns", spec := "inodeRuns", plainKeys := false, apart := false }
def InodeRunsSaid : Prop := inodeRunsRow.holds Try.pinned (OpenSpec.ofChange inodeRunsSpec)

/-- ITS FALSE NEIGHBOUR: 'it returns false'. Refute it at one input. -/
def inodeRunsWrong : ChangeSpec := { name := "inodeRuns", fn := fun _ => fun
  | [] => { results := [.lit (.bool false)], args := [] }
  | _ => none }
def InodeRunsWrongFalsely : Prop := inodeRunsRow.holds Try.pinned (OpenSpec.ofChange inodeRunsWrong)

/-- 'cloisterlaw10.InodeBytes': WHATEVER THE INPUT: true; the input reads as it did. -/
def inodeBytesSpec : ChangeSpec := { name := "inodeBytes", fn := fun _ => fun
  | [d1, d2, d3] => { results := [.lit (.bool true)], args := [d1, d2, d3] }
  | _ => none }
def inodeBytesRow : OpenClaim := { program := "ytamkkgmflconaaa", sum := "72765e8c47c3e476b8b006fdf41d2432cee162f11e799c431f3dd0cff5aadf1e", func := "cloister/cloisterlaw10.InodeBytes", spec := "inodeBytes", plainKeys := false, apart := false }
def InodeBytesSaid : Prop := inodeBytesRow.holds Try.pinned (OpenSpec.ofChange inodeBytesSpec)

/-- ITS FALSE NEIGHBOUR: 'it returns false'. Refute it at one input. -/
def inodeBytesWrong : ChangeSpec := { name := "inodeBytes", fn := fun _ => fun
  | [d1, d2, d3] => { results := [.lit (.bool false)], args := [d1, d2, d3] }
  | _ => none }
def InodeBytesWrongFalsely : Prop := inodeBytesRow.holds Try.pinned (OpenSpec.ofChange inodeBytesWrong)

/-- 'cloisterlaw10.InodeCounts': WHATEVER THE INPUT: true; the input reads as it did. -/
def inodeCountsSpec : ChangeSpec := { name := "inodeCounts", fn := fun _ => fun
  | [d1, d2, d3] => { results := [.lit (.bool true)], args := [d1, d2, d3] }
  | _ => none }
def inodeCountsRow : OpenClaim := { program := "ytamkkgmflconaaa", sum := "72765e8c47c3e476b8b006fdf41d2432cee162f11e799c431f3dd0cff5aadf1e", func := "cloister/cloisterlaw10.InodeCounts", spec := "inodeCounts", plainKeys := false, apart := false }
def InodeCountsSaid : Prop := inodeCountsRow.holds Try.pinned (OpenSpec.ofChange inodeCountsSpec)

/-- ITS FALSE NEIGHBOUR: 'it returns false'. Refute it at one input. -/
def inodeCountsWrong : ChangeSpec := { name := "inodeCounts", fn := fun _ => fun
  | [d1, d2, d3] => { results := [.lit (.bool false)], args := [d1, d2, d3] }
  | _ => none }
def InodeCountsWrongFalsely : Prop := inodeCountsRow.holds Try.pinned (OpenSpec.ofChange inodeCountsWrong)

/-- 'cloisterlaw10.InodeApart': WHATEVER THE INPUT: true; the input reads as it did. -/
def inodeApartSpec : ChangeSpec := { name := "inodeApart", fn := fun _ => fun
  | [d1, d2] => { results := [.lit (.bool true)], args := [d1, d2] }
  | _ => none }
def inodeApartRow : OpenClaim := { program := "ytamkkgmflconaaa", sum := "72765e8c47c3e476b8b006fdf41d2432cee162f11e799c431f3dd0cff5aadf1e", func := "cloister/cloisterlaw10.InodeApart", spec := "inodeApart", plainKeys := false, apart := false }
def InodeApartSaid : Prop := inodeApartRow.holds Try.pinned (OpenSpec.ofChange inodeApartSpec)

/-- ITS FALSE NEIGHBOUR: 'it returns false'. Refute it at one input. -/
def inodeApartWrong : ChangeSpec := { name := "inodeApart", fn := fun _ => fun
  | [d1, d2] => { results := [.lit (.bool false)], args := [d1, d2] }
  | _ => none }
def InodeApartWrongFalsely : Prop := inodeApartRow.holds Try.pinned (OpenSpec.ofChange inodeApartWrong)

/-- 'cloisterlaw13.PipeRuns': WHATEVER THE INPUT: true; the input reads as it did. -/
def pipeRunsSpec : ChangeSpec := { name := "pipeRuns", fn := fun _ => fun
  | [] => { results := [.lit (.bool true)], args := [] }
  | _ => none }
def pipeRunsRow : OpenClaim := { program := "ytamkkgmflconaaa", sum := "72765e8c47c3e476b8b006fdf41d2432cee162f11e799c431f3dd0cff5aadf1e", func := "cloister/cloisterlaw13.PipeRuns", spec := "pipeRuns", plainKeys := false, apart := false }
def PipeRunsSaid : Prop := pipeRunsRow.holds Try.pinned (OpenSpec.ofChange pipeRunsSpec)

/-- ITS FALSE NEIGHBOUR: 'it returns false'. Refute it at one input. -/
def pipeRunsWrong : ChangeSpec := { name := "pipeRuns", fn := fun _ => fun
  | [] => { results := [.lit (.bool false)], args := [] }
  | _ => none }
def PipeRunsWrongFalsely : Prop := pipeRunsRow.holds Try.pinned (OpenSpec.ofChange pipeRunsWrong)

/-- 'cloisterlaw13.PipeOrder': WHATEVER THE INPUT: true; the input reads as it did. -/
def pipeOrderSpec : ChangeSpec := { name := "pipeOrder", fn := fun _ => fun
  | [d] => { results := [.lit (.bool true)], args := [d] }
  | _ => none }
def pipeOrderRow : OpenClaim := { program := "ytamkkgmflconaaa", sum := "72765e8c47c3e476b8b006fdf41d2432cee162f11e799c431f3dd0cff5aadf1e", func := "cloister/cloisterlaw13.PipeOrder", spec := "pipeOrder", plainKeys := false, apart := false }
def PipeOrderSaid : Prop := pipeOrderRow.holds Try.pinned (OpenSpec.ofChange pipeOrderSpec)

/-- ITS FALSE NEIGHBOUR: 'it returns false'. Refute it at one input. -/
def pipeOrderWrong : ChangeSpec := { name := "pipeOrder", fn := fun _ => fun
  | [d] => { results := [.lit (.bool false)], args := [d] }
  | _ => none }
def PipeOrderWrongFalsely : Prop := pipeOrderRow.holds Try.pinned (OpenSpec.ofChange pipeOrderWrong)

/-- 'cloisterlaw13.PipeEnds': WHATEVER THE INPUT: true; the input reads as it did. -/
def pipeEndsSpec : ChangeSpec := { name := "pipeEnds", fn := fun _ => fun
  | [d1, d2, d3] => { results := [.lit (.bool true)], args := [d1, d2, d3] }
  | _ => none }
def pipeEndsRow : OpenClaim := { program := "ytamkkgmflconaaa", sum := "72765e8c47c3e476b8b006fdf41d2432cee162f11e799c431f3dd0cff5aadf1e", func := "cloister/cloisterlaw13.PipeEnds", spec := "pipeEnds", plainKeys := false, apart := false }
def PipeEndsSaid : Prop := pipeEndsRow.holds Try.pinned (OpenSpec.ofChange pipeEndsSpec)

/-- ITS FALSE NEIGHBOUR: 'it returns false'. Refute it at one input. -/
def pipeEndsWrong : ChangeSpec := { name := "pipeEnds", fn := fun _ => fun
  | [d1, d2, d3] => { results := [.lit (.bool false)], args := [d1, d2, d3] }
  | _ => none }
def PipeEndsWrongFalsely : Prop := pipeEndsRow.holds Try.pinned (OpenSpec.ofChange pipeEndsWrong)

/-- 'cloisterlaw13.PipeApart': WHATEVER THE INPUT: true; the input reads as it did. -/
def pipeApartSpec : ChangeSpec := { name := "pipeApart", fn := fun _ => fun
  | [d1, d2] => { results := [.lit (.bool true)], args := [d1, d2] }
  | _ => none }
def pipeApartRow : OpenClaim := { program := "ytamkkgmflconaaa", sum := "72765e8c47c3e476b8b006fdf41d2432cee162f11e799c431f3dd0cff5aadf1e", func := "cloister/cloisterlaw13.PipeApart", spec := "pipeApart", plainKeys := false, apart := false }
def PipeApartSaid : Prop := pipeApartRow.holds Try.pinned (OpenSpec.ofChange pipeApartSpec)

/-- ITS FALSE NEIGHBOUR: 'it returns false'. Refute it at one input. -/
def pipeApartWrong : ChangeSpec := { name := "pipeApart", fn := fun _ => fun
  | [d1, d2] => { results := [.lit (.bool false)], args := [d1, d2] }
  | _ => none }
def PipeApartWrongFalsely : Prop := pipeApartRow.holds Try.pinned (OpenSpec.ofChange pipeApartWrong)

/-- 'cloisterlaw10.InodePlays': WHATEVER THE INPUT: true; the input reads as it did. -/
def inodePlaysSpec : ChangeSpec := { name := "inodePlays", fn := fun _ => fun
  | [d1, d2] => { results := [.lit (.bool true)], args := [d1, d2] }
  | _ => none }
def inodePlaysRow : OpenClaim := { program := "ytamkkgmflconaaa", sum := "72765e8c47c3e476b8b006fdf41d2432cee162f11e799c431f3dd0cff5aadf1e", func := "cloister/cloisterlaw10.InodePlays", spec := "inodePlays", unfollowed := true, recurses := true, plainKeys := false, apart := false }
def InodePlaysSaid : Prop := inodePlaysRow.holds Try.pinned (OpenSpec.ofChange inodePlaysSpec)

/-- ITS FALSE NEIGHBOUR: 'it returns false'. Refute it at one input. -/
def inodePlaysWrong : ChangeSpec := { name := "inodePlays", fn := fun _ => fun
  | [d1, d2] => { results := [.lit (.bool false)], args := [d1, d2] }
  | _ => none }
def InodePlaysWrongFalsely : Prop := inodePlaysRow.holds Try.pinned (OpenSpec.ofChange inodePlaysWrong)

/-- 'cloisterlaw13.PipePlays': WHATEVER THE INPUT: true; the input reads as it did. -/
def pipePlaysSpec : ChangeSpec := { name := "pipePlays", fn := fun _ => fun
  | [d1, d2] => { results := [.lit (.bool true)], args := [d1, d2] }
  | _ => none }
def pipePlaysRow : OpenClaim := { program := "ytamkkgmflconaaa", sum := "72765e8c47c3e476b8b006fdf41d2432cee162f11e799c431f3dd0cff5aadf1e", func := "cloister/cloisterlaw13.PipePlays", spec := "pipePlays", unfollowed := true, recurses := true, plainKeys := false, apart := false }
def PipePlaysSaid : Prop := pipePlaysRow.holds Try.pinned (OpenSpec.ofChange pipePlaysSpec)

/-- ITS FALSE NEIGHBOUR: 'it returns false'. Refute it at one input. -/
def pipePlaysWrong : ChangeSpec := { name := "pipePlays", fn := fun _ => fun
  | [d1, d2] => { results := [.lit (.bool false)], args := [d1, d2] }
  | _ => none }
def PipePlaysWrongFalsely : Prop := pipePlaysRow.holds Try.pinned (OpenSpec.ofChange pipePlaysWrong)

/- THE SECOND FORM. 'bulk': how many values and letters a reading holds, each counted each time it is reached (what is shared counts as often as it is met; a slice's spare places count too). A statement '..UptoSaid' is the law's where the arguments, and the package variables that the reading takes, are together of bulk at most 1048576: NARROWER than '..Said'. Prove '..Said' where nothing that the law and all that it calls make is longer than what came in: it says more and counts as full. Else prove '..UptoSaid'. A law counts once. -/
mutual
def uptoBulk {H : Type} : DataW H → Nat
  | .lit (.string bytes) => bytes.length + 1
  | .lit _ => 1
  | .nil => 1
  | .ptr d => uptoBulk d + 1
  | .slice elems spare => uptoBulkAll elems + uptoBulkAll spare + 1
  | .agg parts => uptoBulkAll parts + 1
  | .iface _ d => uptoBulk d + 1
  | .map entries => uptoBulkEntries entries + 1
  | .held _ => 1
def uptoBulkAll {H : Type} : List (DataW H) → Nat
  | [] => 0
  | d :: r => uptoBulk d + uptoBulkAll r
def uptoBulkEntries {H : Type} : List (Lit × DataW H) → Nat
  | [] => 0
  | x :: r => uptoBulkEntry x + uptoBulkEntries r
def uptoBulkEntry {H : Type} : Lit × DataW H → Nat
  | (.string bytes, d) => bytes.length + uptoBulk d + 1
  | (_, d) => uptoBulk d + 1
 end
def uptoSmall : (H : Type) → List (DataW H) → Bool := fun _ ds => decide (uptoBulkAll ds ≤ 1048576)
def OpenSpec.upto (s : _root_.Go.ChangeSpec) : _root_.Go.OpenSpec := { _root_.Go.OpenSpec.ofChange s with cond := some uptoSmall }

/-- 'cloisterlaw10.InodeRuns', WHERE WHAT IT READS IS OF BULK AT MOST 1048576: true; the input reads as it did. -/
def inodeRunsUptoRow : OpenClaim := { program := "ytamkkgmflconaaa", sum := "72765e8c47c3e476b8b006fdf41d2432cee162f11e799c431f3dd0cff5aadf1e", func := "cloister/cloisterlaw10.InodeRuns", spec := "inodeRuns", plainKeys := false, apart := false, narrowed := true }
def InodeRunsUptoSaid : Prop := inodeRunsUptoRow.holds Try.pinned (OpenSpec.upto inodeRunsSpec)

/-- 'cloisterlaw10.InodeBytes', WHERE WHAT IT READS IS OF BULK AT MOST 1048576: true; the input reads as it did. -/
def inodeBytesUptoRow : OpenClaim := { program := "ytamkkgmflconaaa", sum := "72765e8c47c3e476b8b006fdf41d2432cee162f11e799c431f3dd0cff5aadf1e", func := "cloister/cloisterlaw10.InodeBytes", spec := "inodeBytes", plainKeys := false, apart := false, narrowed := true }
def InodeBytesUptoSaid : Prop := inodeBytesUptoRow.holds Try.pinned (OpenSpec.upto inodeBytesSpec)

/-- 'cloisterlaw10.InodeCounts', WHERE WHAT IT READS IS OF BULK AT MOST 1048576: true; the input reads as it did. -/
def inodeCountsUptoRow : OpenClaim := { program := "ytamkkgmflconaaa", sum := "72765e8c47c3e476b8b006fdf41d2432cee162f11e799c431f3dd0cff5aadf1e", func := "cloister/cloisterlaw10.InodeCounts", spec := "inodeCounts", plainKeys := false, apart := false, narrowed := true }
def InodeCountsUptoSaid : Prop := inodeCountsUptoRow.holds Try.pinned (OpenSpec.upto inodeCountsSpec)

/-- 'cloisterlaw10.InodeApart', WHERE WHAT IT READS IS OF BULK AT MOST 1048576: true; the input reads as it did. -/
def inodeApartUptoRow : OpenClaim := { program := "ytamkkgmflconaaa", sum := "72765e8c47c3e476b8b006fdf41d2432cee162f11e799c431f3dd0cff5aadf1e", func := "cloister/cloisterlaw10.InodeApart", spec := "inodeApart", plainKeys := false, apart := false, narrowed := true }
def InodeApartUptoSaid : Prop := inodeApartUptoRow.holds Try.pinned (OpenSpec.upto inodeApartSpec)

/-- 'cloisterlaw13.PipeRuns', WHERE WHAT IT READS IS OF BULK AT MOST 1048576: true; the input reads as it did. -/
def pipeRunsUptoRow : OpenClaim := { program := "ytamkkgmflconaaa", sum := "72765e8c47c3e476b8b006fdf41d2432cee162f11e799c431f3dd0cff5aadf1e", func := "cloister/cloisterlaw13.PipeRuns", spec := "pipeRuns", plainKeys := false, apart := false, narrowed := true }
def PipeRunsUptoSaid : Prop := pipeRunsUptoRow.holds Try.pinned (OpenSpec.upto pipeRunsSpec)

/-- 'cloisterlaw13.PipeOrder', WHERE WHAT IT READS IS OF BULK AT MOST 1048576: true; the input reads as it did. -/
def pipeOrderUptoRow : OpenClaim := { program := "ytamkkgmflconaaa", sum := "72765e8c47c3e476b8b006fdf41d2432cee162f11e799c431f3dd0cff5aadf1e", func := "cloister/cloisterlaw13.PipeOrder", spec := "pipeOrder", plainKeys := false, apart := false, narrowed := true }
def PipeOrderUptoSaid : Prop := pipeOrderUptoRow.holds Try.pinned (OpenSpec.upto pipeOrderSpec)

/-- 'cloisterlaw13.PipeEnds', WHERE WHAT IT READS IS OF BULK AT MOST 1048576: true; the input reads as it did. -/
def pipeEndsUptoRow : OpenClaim := { program := "ytamkkgmflconaaa", sum := "72765e8c47c3e476b8b006fdf41d2432cee162f11e799c431f3dd0cff5aadf1e", func := "cloister/cloisterlaw13.PipeEnds", spec := "pipeEnds", plainKeys := false, apart := false, narrowed := true }
def PipeEndsUptoSaid : Prop := pipeEndsUptoRow.holds Try.pinned (OpenSpec.upto pipeEndsSpec)

/-- 'cloisterlaw13.PipeApart', WHERE WHAT IT READS IS OF BULK AT MOST 1048576: true; the input reads as it did. -/
def pipeApartUptoRow : OpenClaim := { program := "ytamkkgmflconaaa", sum := "72765e8c47c3e476b8b006fdf41d2432cee162f11e799c431f3dd0cff5aadf1e", func := "cloister/cloisterlaw13.PipeApart", spec := "pipeApart", plainKeys := false, apart := false, narrowed := true }
def PipeApartUptoSaid : Prop := pipeApartUptoRow.holds Try.pinned (OpenSpec.upto pipeApartSpec)

/-- 'cloisterlaw10.InodePlays', WHERE WHAT IT READS IS OF BULK AT MOST 1048576: true; the input reads as it did. -/
def inodePlaysUptoRow : OpenClaim := { program := "ytamkkgmflconaaa", sum := "72765e8c47c3e476b8b006fdf41d2432cee162f11e799c431f3dd0cff5aadf1e", func := "cloister/cloisterlaw10.InodePlays", spec := "inodePlays", unfollowed := true, recurses := true, plainKeys := false, apart := false, narrowed := true }
def InodePlaysUptoSaid : Prop := inodePlaysUptoRow.holds Try.pinned (OpenSpec.upto inodePlaysSpec)

/-- 'cloisterlaw13.PipePlays', WHERE WHAT IT READS IS OF BULK AT MOST 1048576: true; the input reads as it did. -/
def pipePlaysUptoRow : OpenClaim := { program := "ytamkkgmflconaaa", sum := "72765e8c47c3e476b8b006fdf41d2432cee162f11e799c431f3dd0cff5aadf1e", func := "cloister/cloisterlaw13.PipePlays", spec := "pipePlays", unfollowed := true, recurses := true, plainKeys := false, apart := false, narrowed := true }
def PipePlaysUptoSaid : Prop := pipePlaysUptoRow.holds Try.pinned (OpenSpec.upto pipePlaysSpec)

end Rows
end Go.Proofs.Ytamkkgmflconaaa
