/-
  No cell of these rows narrows 'for every input' (looked for: loops, veiled, ifaces, maps, wideKeys, modest, calm, conditions, laid).
  DERIVED. THE GIVEN ROWS OF THIS SEAT. 6 by the template 'for every input the law returns true; each argument reads behind the call as it read before'; 0 by the template 'total and deterministic' (their statements: YtdpgpnjjonhdhaaTotals.lean).
  GIVEN WITH THE SEED: the statements are not yours to turn. If you find one false, say at which input.
  Laid BY PROGRAM, IN A SANDBOX (cutbox-rows.mjs): the forced cells as the released guide's own fill.sh prints them over the translation f535500271494bc7… (all of the seat's roots in one cut). By AI agents, Wed Nov 11 2026. No macro, syntax, notation, axiom, sorry.
-/
import Derived.Test.YtdpgpnjjonhdhaaChecked
import GoSem.Claim
import GoSem.ClaimJoined
import GoSem.ClaimMapViews
import Derived.JoinedTies
import Derived.KernelRfl
namespace Go.Proofs.Ytdpgpnjjonhdhaa
/- THE CELL 'sum', in the pinned program and in every row, IS THE sha256 OF THE DUMP (.gsa) THAT YtdpgpnjjonhdhaaProg.lean LOADS. Nothing in Lean hashes anything: it is a label: what it is worth is what the hold of that sum in a sandbox is worth. -/
noncomputable def Try.pinned : Pinned := { name := "ytdpgpnjjonhdhaa", sum := "f535500271494bc728385991b016d25c9c1ca14479845639ae61acac4b6d7582", checked := Try.checked }
namespace Rows
def none {H : Type} : Left H := { results := [], args := [] }

/-- 'cloisterlaw22.ShareRuns': WHATEVER THE INPUT: true; the input reads as it did. -/
def shareRunsSpec : ChangeSpec := { name := "shareRuns", fn := fun _ => fun
  | [] => { results := [.lit (.bool true)], args := [] }
  | _ => none }
def shareRunsRow : OpenClaim := { program := "ytdpgpnjjonhdhaa", sum := "f535500271494bc728385991b016d25c9c1ca14479845639ae61acac4b6d7582", func := "cloister/cloisterlaw22.ShareRuns", spec := "shareRuns", inPlace := ["math.Float64bits", "math.Float64frombits"], apart := false }
def ShareRunsSaid : Prop := shareRunsRow.holds Try.pinned (OpenSpec.ofChange shareRunsSpec)

/-- ITS FALSE NEIGHBOUR: 'it returns false'. Refute it at one input. -/
def shareRunsWrong : ChangeSpec := { name := "shareRuns", fn := fun _ => fun
  | [] => { results := [.lit (.bool false)], args := [] }
  | _ => none }
def ShareRunsWrongFalsely : Prop := shareRunsRow.holds Try.pinned (OpenSpec.ofChange shareRunsWrong)

/-- 'cloisterlaw22.ShareFair': WHATEVER THE INPUT: true; the input reads as it did. -/
def shareFairSpec : ChangeSpec := { name := "shareFair", fn := fun _ => fun
  | [d1, d2, d3, d4] => { results := [.lit (.bool true)], args := [d1, d2, d3, d4] }
  | _ => none }
def shareFairRow : OpenClaim := { program := "ytdpgpnjjonhdhaa", sum := "f535500271494bc728385991b016d25c9c1ca14479845639ae61acac4b6d7582", func := "cloister/cloisterlaw22.ShareFair", spec := "shareFair", inPlace := ["math.Float64frombits", "math.Float64bits"], apart := false }
def ShareFairSaid : Prop := shareFairRow.holds Try.pinned (OpenSpec.ofChange shareFairSpec)

/-- ITS FALSE NEIGHBOUR: 'it returns false'. Refute it at one input. -/
def shareFairWrong : ChangeSpec := { name := "shareFair", fn := fun _ => fun
  | [d1, d2, d3, d4] => { results := [.lit (.bool false)], args := [d1, d2, d3, d4] }
  | _ => none }
def ShareFairWrongFalsely : Prop := shareFairRow.holds Try.pinned (OpenSpec.ofChange shareFairWrong)

/-- 'cloisterlaw22.ShareParts': WHATEVER THE INPUT: true; the input reads as it did. -/
def sharePartsSpec : ChangeSpec := { name := "shareParts", fn := fun _ => fun
  | [d1, d2, d3] => { results := [.lit (.bool true)], args := [d1, d2, d3] }
  | _ => none }
def sharePartsRow : OpenClaim := { program := "ytdpgpnjjonhdhaa", sum := "f535500271494bc728385991b016d25c9c1ca14479845639ae61acac4b6d7582", func := "cloister/cloisterlaw22.ShareParts", spec := "shareParts", inPlace := ["math.Float64bits", "math.Float64frombits"], apart := false }
def SharePartsSaid : Prop := sharePartsRow.holds Try.pinned (OpenSpec.ofChange sharePartsSpec)

/-- ITS FALSE NEIGHBOUR: 'it returns false'. Refute it at one input. -/
def sharePartsWrong : ChangeSpec := { name := "shareParts", fn := fun _ => fun
  | [d1, d2, d3] => { results := [.lit (.bool false)], args := [d1, d2, d3] }
  | _ => none }
def SharePartsWrongFalsely : Prop := sharePartsRow.holds Try.pinned (OpenSpec.ofChange sharePartsWrong)

/-- 'cloisterlaw22.SharePlays': WHATEVER THE INPUT: true; the input reads as it did. -/
def sharePlaysSpec : ChangeSpec := { name := "sharePlays", fn := fun _ => fun
  | [d1, d2] => { results := [.lit (.bool true)], args := [d1, d2] }
  | _ => none }
def sharePlaysRow : OpenClaim := { program := "ytdpgpnjjonhdhaa", sum := "f535500271494bc728385991b016d25c9c1ca14479845639ae61acac4b6d7582", func := "cloister/cloisterlaw22.SharePlays", spec := "sharePlays", inPlace := ["math.Float64frombits", "math.Float64bits"], apart := false }
def SharePlaysSaid : Prop := sharePlaysRow.holds Try.pinned (OpenSpec.ofChange sharePlaysSpec)

/-- ITS FALSE NEIGHBOUR: 'it returns false'. Refute it at one input. -/
def sharePlaysWrong : ChangeSpec := { name := "sharePlays", fn := fun _ => fun
  | [d1, d2] => { results := [.lit (.bool false)], args := [d1, d2] }
  | _ => none }
def SharePlaysWrongFalsely : Prop := sharePlaysRow.holds Try.pinned (OpenSpec.ofChange sharePlaysWrong)

/-- 'cloisterlaw22.ShareEdges': WHATEVER THE INPUT: true; the input reads as it did. -/
def shareEdgesSpec : ChangeSpec := { name := "shareEdges", fn := fun _ => fun
  | [d1, d2] => { results := [.lit (.bool true)], args := [d1, d2] }
  | _ => none }
def shareEdgesRow : OpenClaim := { program := "ytdpgpnjjonhdhaa", sum := "f535500271494bc728385991b016d25c9c1ca14479845639ae61acac4b6d7582", func := "cloister/cloisterlaw22.ShareEdges", spec := "shareEdges", inPlace := ["math.Float64frombits", "math.Float64bits"], apart := false }
def ShareEdgesSaid : Prop := shareEdgesRow.holds Try.pinned (OpenSpec.ofChange shareEdgesSpec)

/-- ITS FALSE NEIGHBOUR: 'it returns false'. Refute it at one input. -/
def shareEdgesWrong : ChangeSpec := { name := "shareEdges", fn := fun _ => fun
  | [d1, d2] => { results := [.lit (.bool false)], args := [d1, d2] }
  | _ => none }
def ShareEdgesWrongFalsely : Prop := shareEdgesRow.holds Try.pinned (OpenSpec.ofChange shareEdgesWrong)

/-- 'cloisterlaw22.ShareHalves': WHATEVER THE INPUT: true; the input reads as it did. -/
def shareHalvesSpec : ChangeSpec := { name := "shareHalves", fn := fun _ => fun
  | [d1, d2, d3] => { results := [.lit (.bool true)], args := [d1, d2, d3] }
  | _ => none }
def shareHalvesRow : OpenClaim := { program := "ytdpgpnjjonhdhaa", sum := "f535500271494bc728385991b016d25c9c1ca14479845639ae61acac4b6d7582", func := "cloister/cloisterlaw22.ShareHalves", spec := "shareHalves", inPlace := ["math.Float64frombits", "math.Float64bits"], apart := false }
def ShareHalvesSaid : Prop := shareHalvesRow.holds Try.pinned (OpenSpec.ofChange shareHalvesSpec)

/-- ITS FALSE NEIGHBOUR: 'it returns false'. Refute it at one input. -/
def shareHalvesWrong : ChangeSpec := { name := "shareHalves", fn := fun _ => fun
  | [d1, d2, d3] => { results := [.lit (.bool false)], args := [d1, d2, d3] }
  | _ => none }
def ShareHalvesWrongFalsely : Prop := shareHalvesRow.holds Try.pinned (OpenSpec.ofChange shareHalvesWrong)

/- THE SECOND FORM. 'bulk': how many values and letters a reading holds, each counted each time it is reached (what is shared counts as often as it is met; a slice's spare places count too). A statement '..UptoSaid' is the law's where the arguments, and the package variables that the reading takes, are together of bulk at most 1048576: NARROWER than '..Said'. Prove '..Said' where nothing that the law and all that it calls make is longer than what came in: it says more and counts as full. Else prove '..UptoSaid'. A law counts once. -/
mutual
def uptoBulk {H : Type} : DataW H → Nat
  | .lit (.string bytes) => bytes.length + 1
  | .lit _ => 1
  | .nil => 1
  | .ptr d => uptoBulk d + 1
  | .slice elems spare => uptoBulkAll elems + uptoBulkAll spare + 1
  | .agg parts => uptoBulkAll parts + 1
  | .iface _ d => uptoBulk d + 1
  | .map entries => uptoBulkEntries entries + 1
  | .held _ => 1
def uptoBulkAll {H : Type} : List (DataW H) → Nat
  | [] => 0
  | d :: r => uptoBulk d + uptoBulkAll r
def uptoBulkEntries {H : Type} : List (Lit × DataW H) → Nat
  | [] => 0
  | x :: r => uptoBulkEntry x + uptoBulkEntries r
def uptoBulkEntry {H : Type} : Lit × DataW H → Nat
  | (.string bytes, d) => bytes.length + uptoBulk d + 1
  | (_, d) => uptoBulk d + 1
 end
def uptoSmall : (H : Type) → List (DataW H) → Bool := fun _ ds => decide (uptoBulkAll ds ≤ 1048576)
def OpenSpec.upto (s : _root_.Go.ChangeSpec) : _root_.Go.OpenSpec := { _root_.Go.OpenSpec.ofChange s with cond := some uptoSmall }

/-- 'cloisterlaw22.ShareRuns', WHERE WHAT IT READS IS OF BULK AT MOST 1048576: true; the input reads as it did. -/
def shareRunsUptoRow : OpenClaim := { program := "ytdpgpnjjonhdhaa", sum := "f535500271494bc728385991b016d25c9c1ca14479845639ae61acac4b6d7582", func := "cloister/cloisterlaw22.ShareRuns", spec := "shareRuns", inPlace := ["math.Float64bits", "math.Float64frombits"], apart := false, narrowed := true }
def ShareRunsUptoSaid : Prop := shareRunsUptoRow.holds Try.pinned (OpenSpec.upto shareRunsSpec)

/-- 'cloisterlaw22.ShareFair', WHERE WHAT IT READS IS OF BULK AT MOST 1048576: true; the input reads as it did. -/
def shareFairUptoRow : OpenClaim := { program := "ytdpgpnjjonhdhaa", sum := "f535500271494bc728385991b016d25c9c1ca14479845639ae61acac4b6d7582", func := "cloister/cloisterlaw22.ShareFair", spec := "shareFair", inPlace := ["math.Float64frombits", "math.Float64bits"], apart := false, narrowed := true }
def ShareFairUptoSaid : Prop := shareFairUptoRow.holds Try.pinned (OpenSpec.upto shareFairSpec)

/-- 'cloisterlaw22.ShareParts', WHERE WHAT IT READS IS OF BULK AT MOST 1048576: true; the input reads as it did. -/
def sharePartsUptoRow : OpenClaim := { program := "ytdpgpnjjonhdhaa", sum := "f535500271494bc728385991b016d25c9c1ca14479845639ae61acac4b6d7582", func := "cloister/cloisterlaw22.ShareParts", spec := "shareParts", inPlace := ["math.Float64bits", "math.Float64frombits"], apart := false, narrowed := true }
def SharePartsUptoSaid : Prop := sharePartsUptoRow.holds Try.pinned (OpenSpec.upto sharePartsSpec)

/-- 'cloisterlaw22.SharePlays', WHERE WHAT IT READS IS OF BULK AT MOST 1048576: true; the input reads as it did. -/
def sharePlaysUptoRow : OpenClaim := { program := "ytdpgpnjjonhdhaa", sum := "f535500271494bc728385991b016d25c9c1ca14479845639ae61acac4b6d7582", func := "cloister/cloisterlaw22.SharePlays", spec := "sharePlays", inPlace := ["math.Float64frombits", "math.Float64bits"], apart := false, narrowed := true }
def SharePlaysUptoSaid : Prop := sharePlaysUptoRow.holds Try.pinned (OpenSpec.upto sharePlaysSpec)

/-- 'cloisterlaw22.ShareEdges', WHERE WHAT IT READS IS OF BULK AT MOST 1048576: true; the input reads as it did. -/
def shareEdgesUptoRow : OpenClaim := { program := "ytdpgpnjjonhdhaa", sum := "f535500271494bc728385991b016d25c9c1ca14479845639ae61acac4b6d7582", func := "cloister/cloisterlaw22.ShareEdges", spec := "shareEdges", inPlace := ["math.Float64frombits", "math.Float64bits"], apart := false, narrowed := true }
def ShareEdgesUptoSaid : Prop := shareEdgesUptoRow.holds Try.pinned (OpenSpec.upto shareEdgesSpec)

/-- 'cloisterlaw22.ShareHalves', WHERE WHAT IT READS IS OF BULK AT MOST 1048576: true; the input reads as it did. -/
def shareHalvesUptoRow : OpenClaim := { program := "ytdpgpnjjonhdhaa", sum := "f535500271494bc728385991b016d25c9c1ca14479845639ae61acac4b6d7582", func := "cloister/cloisterlaw22.ShareHalves", spec := "shareHalves", inPlace := ["math.Float64frombits", "math.Float64bits"], apart := false, narrowed := true }
def ShareHalvesUptoSaid : Prop := shareHalvesUptoRow.holds Try.pinned (OpenSpec.upto shareHalvesSpec)

end Rows
end Go.Proofs.Ytdpgpnjjonhdhaa
