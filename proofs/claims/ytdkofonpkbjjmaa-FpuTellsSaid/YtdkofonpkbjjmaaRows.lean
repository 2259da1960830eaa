/-
  No cell of these rows narrows 'for every input' (looked for: loops, veiled, ifaces, maps, wideKeys, modest, calm, conditions, laid).
  DERIVED. THE GIVEN ROWS OF THIS SEAT. 8 by the template 'for every input the law returns true; each argument reads behind the call as it read before'; 0 by the template 'total and deterministic' (their statements: YtdkofonpkbjjmaaTotals.lean).
  GIVEN WITH THE SEED: the statements are not yours to turn. If you find one false, say at which input.
  Laid BY PROGRAM, IN A SANDBOX (cutbox-rows.mjs): the forced cells as the released guide's own fill.sh prints them over the translation beb9340a0b5d80bd… (all of the seat's roots in one cut). By AI agents, Wed Nov 11 2026. No macro, syntax, notation, axiom, sorry.
-/
import Derived.Test.YtdkofonpkbjjmaaChecked
import GoSem.Claim
import GoSem.ClaimJoined
import GoSem.ClaimMapViews
import Derived.JoinedTies
import Derived.KernelRfl
namespace Go.Proofs.Ytdkofonpkbjjmaa
/- THE CELL 'sum', in the pinned program and in every row, IS THE sha256 OF THE DUMP (.gsa) THAT YtdkofonpkbjjmaaProg.lean LOADS. Nothing in Lean hashes anything: it is a label: what it is worth is what the hold of that sum in a sandbox is worth. -/
noncomputable def Try.pinned : Pinned := { name := "ytdkofonpkbjjmaa", sum := "beb9340a0b5d80bd52133e40e3e3424731064da8942e7a5bb4925efeed9635f7", checked := Try.checked }
namespace Rows
def none {H : Type} : Left H := { results := [], args := [] }

/-- 'cloisterlaw1.FpuRuns': WHATEVER THE INPUT: true; the input reads as it did. -/
def fpuRunsSpec : ChangeSpec := { name := "fpuRuns", fn := fun _ => fun
  | [] => { results := [.lit (.bool true)], args := [] }
  | _ => none }
def fpuRunsRow : OpenClaim := { program := "ytdkofonpkbjjmaa", sum := "beb9340a0b5d80bd52133e40e3e3424731064da8942e7a5bb4925efeed9635f7", func := "cloister/cloisterlaw1.FpuRuns", spec := "fpuRuns", inPlace := ["math.Float64frombits", "math.Float64bits"], apart := false }
def FpuRunsSaid : Prop := fpuRunsRow.holds Try.pinned (OpenSpec.ofChange fpuRunsSpec)

/-- ITS FALSE NEIGHBOUR: 'it returns false'. Refute it at one input. -/
def fpuRunsWrong : ChangeSpec := { name := "fpuRuns", fn := fun _ => fun
  | [] => { results := [.lit (.bool false)], args := [] }
  | _ => none }
def FpuRunsWrongFalsely : Prop := fpuRunsRow.holds Try.pinned (OpenSpec.ofChange fpuRunsWrong)

/-- 'cloisterlaw1.FpuSigns': WHATEVER THE INPUT: true; the input reads as it did. -/
def fpuSignsSpec : ChangeSpec := { name := "fpuSigns", fn := fun _ => fun
  | [d1, d2] => { results := [.lit (.bool true)], args := [d1, d2] }
  | _ => none }
def fpuSignsRow : OpenClaim := { program := "ytdkofonpkbjjmaa", sum := "beb9340a0b5d80bd52133e40e3e3424731064da8942e7a5bb4925efeed9635f7", func := "cloister/cloisterlaw1.FpuSigns", spec := "fpuSigns", inPlace := ["math.Float64frombits", "math.Float64bits"], apart := false }
def FpuSignsSaid : Prop := fpuSignsRow.holds Try.pinned (OpenSpec.ofChange fpuSignsSpec)

/-- ITS FALSE NEIGHBOUR: 'it returns false'. Refute it at one input. -/
def fpuSignsWrong : ChangeSpec := { name := "fpuSigns", fn := fun _ => fun
  | [d1, d2] => { results := [.lit (.bool false)], args := [d1, d2] }
  | _ => none }
def FpuSignsWrongFalsely : Prop := fpuSignsRow.holds Try.pinned (OpenSpec.ofChange fpuSignsWrong)

/-- 'cloisterlaw1.FpuOrder': WHATEVER THE INPUT: true; the input reads as it did. -/
def fpuOrderSpec : ChangeSpec := { name := "fpuOrder", fn := fun _ => fun
  | [d1, d2, d3] => { results := [.lit (.bool true)], args := [d1, d2, d3] }
  | _ => none }
def fpuOrderRow : OpenClaim := { program := "ytdkofonpkbjjmaa", sum := "beb9340a0b5d80bd52133e40e3e3424731064da8942e7a5bb4925efeed9635f7", func := "cloister/cloisterlaw1.FpuOrder", spec := "fpuOrder", inPlace := ["math.Float64frombits", "math.Float64bits"], apart := false }
def FpuOrderSaid : Prop := fpuOrderRow.holds Try.pinned (OpenSpec.ofChange fpuOrderSpec)

/-- ITS FALSE NEIGHBOUR: 'it returns false'. Refute it at one input. -/
def fpuOrderWrong : ChangeSpec := { name := "fpuOrder", fn := fun _ => fun
  | [d1, d2, d3] => { results := [.lit (.bool false)], args := [d1, d2, d3] }
  | _ => none }
def FpuOrderWrongFalsely : Prop := fpuOrderRow.holds Try.pinned (OpenSpec.ofChange fpuOrderWrong)

/-- 'cloisterlaw1.FpuHalves': WHATEVER THE INPUT: true; the input reads as it did. -/
def fpuHalvesSpec : ChangeSpec := { name := "fpuHalves", fn := fun _ => fun
  | [d] => { results := [.lit (.bool true)], args := [d] }
  | _ => none }
def fpuHalvesRow : OpenClaim := { program := "ytdkofonpkbjjmaa", sum := "beb9340a0b5d80bd52133e40e3e3424731064da8942e7a5bb4925efeed9635f7", func := "cloister/cloisterlaw1.FpuHalves", spec := "fpuHalves", inPlace := ["math.Float64frombits", "math.Float64bits"], apart := false }
def FpuHalvesSaid : Prop := fpuHalvesRow.holds Try.pinned (OpenSpec.ofChange fpuHalvesSpec)

/-- ITS FALSE NEIGHBOUR: 'it returns false'. Refute it at one input. -/
def fpuHalvesWrong : ChangeSpec := { name := "fpuHalves", fn := fun _ => fun
  | [d] => { results := [.lit (.bool false)], args := [d] }
  | _ => none }
def FpuHalvesWrongFalsely : Prop := fpuHalvesRow.holds Try.pinned (OpenSpec.ofChange fpuHalvesWrong)

/-- 'cloisterlaw1.FpuNans': WHATEVER THE INPUT: true; the input reads as it did. -/
def fpuNansSpec : ChangeSpec := { name := "fpuNans", fn := fun _ => fun
  | [d1, d2, d3, d4] => { results := [.lit (.bool true)], args := [d1, d2, d3, d4] }
  | _ => none }
def fpuNansRow : OpenClaim := { program := "ytdkofonpkbjjmaa", sum := "beb9340a0b5d80bd52133e40e3e3424731064da8942e7a5bb4925efeed9635f7", func := "cloister/cloisterlaw1.FpuNans", spec := "fpuNans", inPlace := ["math.Float64frombits", "math.Float64bits"], apart := false }
def FpuNansSaid : Prop := fpuNansRow.holds Try.pinned (OpenSpec.ofChange fpuNansSpec)

/-- ITS FALSE NEIGHBOUR: 'it returns false'. Refute it at one input. -/
def fpuNansWrong : ChangeSpec := { name := "fpuNans", fn := fun _ => fun
  | [d1, d2, d3, d4] => { results := [.lit (.bool false)], args := [d1, d2, d3, d4] }
  | _ => none }
def FpuNansWrongFalsely : Prop := fpuNansRow.holds Try.pinned (OpenSpec.ofChange fpuNansWrong)

/-- 'cloisterlaw1.FpuApart': WHATEVER THE INPUT: true; the input reads as it did. -/
def fpuApartSpec : ChangeSpec := { name := "fpuApart", fn := fun _ => fun
  | [d1, d2] => { results := [.lit (.bool true)], args := [d1, d2] }
  | _ => none }
def fpuApartRow : OpenClaim := { program := "ytdkofonpkbjjmaa", sum := "beb9340a0b5d80bd52133e40e3e3424731064da8942e7a5bb4925efeed9635f7", func := "cloister/cloisterlaw1.FpuApart", spec := "fpuApart", inPlace := ["math.Float64frombits", "math.Float64bits"], apart := false }
def FpuApartSaid : Prop := fpuApartRow.holds Try.pinned (OpenSpec.ofChange fpuApartSpec)

/-- ITS FALSE NEIGHBOUR: 'it returns false'. Refute it at one input. -/
def fpuApartWrong : ChangeSpec := { name := "fpuApart", fn := fun _ => fun
  | [d1, d2] => { results := [.lit (.bool false)], args := [d1, d2] }
  | _ => none }
def FpuApartWrongFalsely : Prop := fpuApartRow.holds Try.pinned (OpenSpec.ofChange fpuApartWrong)

/-- 'cloisterlaw1.FpuTells': WHATEVER THE INPUT: true; the input reads as it did. -/
def fpuTellsSpec : ChangeSpec := { name := "fpuTells", fn := fun _ => fun
  | [d1, d2, d3, d4] => { results := [.lit (.bool true)], args := [d1, d2, d3, d4] }
  | _ => none }
def fpuTellsRow : OpenClaim := { program := "ytdkofonpkbjjmaa", sum := "beb9340a0b5d80bd52133e40e3e3424731064da8942e7a5bb4925efeed9635f7", func := "cloister/cloisterlaw1.FpuTells", spec := "fpuTells", inPlace := ["math.Float64frombits", "math.Float64bits"], apart := false }
def FpuTellsSaid : Prop := fpuTellsRow.holds Try.pinned (OpenSpec.ofChange fpuTellsSpec)

/-- ITS FALSE NEIGHBOUR: 'it returns false'. Refute it at one input. -/
def fpuTellsWrong : ChangeSpec := { name := "fpuTells", fn := fun _ => fun
  | [d1, d2, d3, d4] => { results := [.lit (.bool false)], args := [d1, d2, d3, d4] }
  | _ => none }
def FpuTellsWrongFalsely : Prop := fpuTellsRow.holds Try.pinned (OpenSpec.ofChange fpuTellsWrong)

/-- 'cloisterlaw1.FpuInts': WHATEVER THE INPUT: true; the input reads as it did. -/
def fpuIntsSpec : ChangeSpec := { name := "fpuInts", fn := fun _ => fun
  | [d1, d2] => { results := [.lit (.bool true)], args := [d1, d2] }
  | _ => none }
def fpuIntsRow : OpenClaim := { program := "ytdkofonpkbjjmaa", sum := "beb9340a0b5d80bd52133e40e3e3424731064da8942e7a5bb4925efeed9635f7", func := "cloister/cloisterlaw1.FpuInts", spec := "fpuInts", inPlace := ["math.Float64bits", "math.Float64frombits"], apart := false }
def FpuIntsSaid : Prop := fpuIntsRow.holds Try.pinned (OpenSpec.ofChange fpuIntsSpec)

/-- ITS FALSE NEIGHBOUR: 'it returns false'. Refute it at one input. -/
def fpuIntsWrong : ChangeSpec := { name := "fpuInts", fn := fun _ => fun
  | [d1, d2] => { results := [.lit (.bool false)], args := [d1, d2] }
  | _ => none }
def FpuIntsWrongFalsely : Prop := fpuIntsRow.holds Try.pinned (OpenSpec.ofChange fpuIntsWrong)

/- THE SECOND FORM. 'bulk': how many values and letters a reading holds, each counted each time it is reached (what is shared counts as often as it is met; a slice's spare places count too). A statement '..UptoSaid' is the law's where the arguments, and the package variables that the reading takes, are together of bulk at most 1048576: NARROWER than '..Said'. Prove '..Said' where nothing that the law and all that it calls make is longer than what came in: it says more and counts as full. Else prove '..UptoSaid'. A law counts once. -/
mutual
def uptoBulk {H : Type} : DataW H → Nat
  | .lit (.string bytes) => bytes.length + 1
  | .lit _ => 1
  | .nil => 1
  | .ptr d => uptoBulk d + 1
  | .slice elems spare => uptoBulkAll elems + uptoBulkAll spare + 1
  | .agg parts => uptoBulkAll parts + 1
  | .iface _ d => uptoBulk d + 1
  | .map entries => uptoBulkEntries entries + 1
  | .held _ => 1
def uptoBulkAll {H : Type} : List (DataW H) → Nat
  | [] => 0
  | d :: r => uptoBulk d + uptoBulkAll r
def uptoBulkEntries {H : Type} : List (Lit × DataW H) → Nat
  | [] => 0
  | x :: r => uptoBulkEntry x + uptoBulkEntries r
def uptoBulkEntry {H : Type} : Lit × DataW H → Nat
  | (.string bytes, d) => bytes.length + uptoBulk d + 1
  | (_, d) => uptoBulk d + 1
 end
def uptoSmall : (H : Type) → List (DataW H) → Bool := fun _ ds => decide (uptoBulkAll ds ≤ 1048576)
def OpenSpec.upto (s : _root_.Go.ChangeSpec) : _root_.Go.OpenSpec := { _root_.Go.OpenSpec.ofChange s with cond := some uptoSmall }

/-- 'cloisterlaw1.FpuRuns', WHERE WHAT IT READS IS OF BULK AT MOST 1048576: true; the input reads as it did. -/
def fpuRunsUptoRow : OpenClaim := { program := "ytdkofonpkbjjmaa", sum := "beb9340a0b5d80bd52133e40e3e3424731064da8942e7a5bb4925efeed9635f7", func := "cloister/cloisterlaw1.FpuRuns", spec := "fpuRuns", inPlace := ["math.Float64frombits", "math.Float64bits"], apart := false, narrowed := true }
def FpuRunsUptoSaid : Prop := fpuRunsUptoRow.holds Try.pinned (OpenSpec.upto fpuRunsSpec)

/-- 'cloisterlaw1.FpuSigns', WHERE WHAT IT READS IS OF BULK AT MOST 1048576: true; the input reads as it did. -/
def fpuSignsUptoRow : OpenClaim := { program := "ytdkofonpkbjjmaa", sum := "beb9340a0b5d80bd52133e40e3e3424731064da8942e7a5bb4925efeed9635f7", func := "cloister/cloisterlaw1.FpuSigns", spec := "fpuSigns", inPlace := ["math.Float64frombits", "math.Float64bits"], apart := false, narrowed := true }
def FpuSignsUptoSaid : Prop := fpuSignsUptoRow.holds Try.pinned (OpenSpec.upto fpuSignsSpec)

/-- 'cloisterlaw1.FpuOrder', WHERE WHAT IT READS IS OF BULK AT MOST 1048576: true; the input reads as it did. -/
def fpuOrderUptoRow : OpenClaim := { program := "ytdkofonpkbjjmaa", sum := "beb9340a0b5d80bd52133e40e3e3424731064da8942e7a5bb4925efeed9635f7", func := "cloister/cloisterlaw1.FpuOrder", spec := "fpuOrder", inPlace := ["math.Float64frombits", "math.Float64bits"], apart := false, narrowed := true }
def FpuOrderUptoSaid : Prop := fpuOrderUptoRow.holds Try.pinned (OpenSpec.upto fpuOrderSpec)

/-- 'cloisterlaw1.FpuHalves', WHERE WHAT IT READS IS OF BULK AT MOST 1048576: true; the input reads as it did. -/
def fpuHalvesUptoRow : OpenClaim := { program := "ytdkofonpkbjjmaa", sum := "beb9340a0b5d80bd52133e40e3e3424731064da8942e7a5bb4925efeed9635f7", func := "cloister/cloisterlaw1.FpuHalves", spec := "fpuHalves", inPlace := ["math.Float64frombits", "math.Float64bits"], apart := false, narrowed := true }
def FpuHalvesUptoSaid : Prop := fpuHalvesUptoRow.holds Try.pinned (OpenSpec.upto fpuHalvesSpec)

/-- 'cloisterlaw1.FpuNans', WHERE WHAT IT READS IS OF BULK AT MOST 1048576: true; the input reads as it did. -/
def fpuNansUptoRow : OpenClaim := { program := "ytdkofonpkbjjmaa", sum := "beb9340a0b5d80bd52133e40e3e3424731064da8942e7a5bb4925efeed9635f7", func := "cloister/cloisterlaw1.FpuNans", spec := "fpuNans", inPlace := ["math.Float64frombits", "math.Float64bits"], apart := false, narrowed := true }
def FpuNansUptoSaid : Prop := fpuNansUptoRow.holds Try.pinned (OpenSpec.upto fpuNansSpec)

/-- 'cloisterlaw1.FpuApart', WHERE WHAT IT READS IS OF BULK AT MOST 1048576: true; the input reads as it did. -/
def fpuApartUptoRow : OpenClaim := { program := "ytdkofonpkbjjmaa", sum := "beb9340a0b5d80bd52133e40e3e3424731064da8942e7a5bb4925efeed9635f7", func := "cloister/cloisterlaw1.FpuApart", spec := "fpuApart", inPlace := ["math.Float64frombits", "math.Float64bits"], apart := false, narrowed := true }
def FpuApartUptoSaid : Prop := fpuApartUptoRow.holds Try.pinned (OpenSpec.upto fpuApartSpec)

/-- 'cloisterlaw1.FpuTells', WHERE WHAT IT READS IS OF BULK AT MOST 1048576: true; the input reads as it did. -/
def fpuTellsUptoRow : OpenClaim := { program := "ytdkofonpkbjjmaa", sum := "beb9340a0b5d80bd52133e40e3e3424731064da8942e7a5bb4925efeed9635f7", func := "cloister/cloisterlaw1.FpuTells", spec := "fpuTells", inPlace := ["math.Float64frombits", "math.Float64bits"], apart := false, narrowed := true }
def FpuTellsUptoSaid : Prop := fpuTellsUptoRow.holds Try.pinned (OpenSpec.upto fpuTellsSpec)

/-- 'cloisterlaw1.FpuInts', WHERE WHAT IT READS IS OF BULK AT MOST 1048576: true; the input reads as it did. -/
def fpuIntsUptoRow : OpenClaim := { program := "ytdkofonpkbjjmaa", sum := "beb9340a0b5d80bd52133e40e3e3424731064da8942e7a5bb4925efeed9635f7", func := "cloister/cloisterlaw1.FpuInts", spec := "fpuInts", inPlace := ["math.Float64bits", "math.Float64frombits"], apart := false, narrowed := true }
def FpuIntsUptoSaid : Prop := fpuIntsUptoRow.holds Try.pinned (OpenSpec.upto fpuIntsSpec)

end Rows
end Go.Proofs.Ytdkofonpkbjjmaa
