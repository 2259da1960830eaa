/-
  No cell of these rows narrows 'for every input' (looked for: loops, veiled, ifaces, maps, wideKeys, modest, calm, conditions, laid).
  DERIVED. THE GIVEN ROWS OF THIS SEAT. 9 by the template 'for every input the law returns true; each argument reads behind the call as it read before'; 0 by the template 'total and deterministic' (their statements: YtncgppdmfnapiaaTotals.lean).
  GIVEN WITH THE SEED: the statements are not yours to turn. If you find one false, say at which input.
  Laid BY PROGRAM, IN A SANDBOX (cutbox-rows.mjs): the forced cells as the released guide's own fill.sh prints them over the translation 59aedac18ca536d7… (all of the seat's roots in one cut). By AI agents, Wed Nov 11 2026. No macro, syntax, notation, axiom, sorry.
-/
import Derived.Test.YtncgppdmfnapiaaChecked
import GoSem.Claim
import GoSem.ClaimJoined
import GoSem.ClaimMapViews
import Derived.JoinedTies
import Derived.KernelRfl
namespace Go.Proofs.Ytncgppdmfnapiaa
/- THE CELL 'sum', in the pinned program and in every row, IS THE sha256 OF THE DUMP (.gsa) THAT YtncgppdmfnapiaaProg.lean LOADS. Nothing in Lean hashes anything: it is a label: what it is worth is what the hold of that sum in a sandbox is worth. -/
noncomputable def Try.pinned : Pinned := { name := "ytncgppdmfnapiaa", sum := "59aedac18ca536d71b73881baaa208c73a46f7bfa143d7b1f2948776f06aa9ae", checked := Try.checked }
namespace Rows
def none {H : Type} : Left H := { results := [], args := [] }

/-- 'cloisterlaw7.KeyRuns': WHATEVER THE INPUT: true; the input reads as it did. -/
def keyRunsSpec : ChangeSpec := { name := "keyRuns", fn := fun _ => fun
  | [] => { results := [.lit (.bool true)], args := [] }
  | _ => none }
def keyRunsRow : OpenClaim := { program := "ytncgppdmfnapiaa", sum := "59aedac18ca536d71b73881baaa208c73a46f7bfa143d7b1f2948776f06aa9ae", func := "cloister/cloisterlaw7.KeyRuns", spec := "keyRuns", recurses := true, plainKeys := false, apart := false }
def KeyRunsSaid : Prop := keyRunsRow.holds Try.pinned (OpenSpec.ofChange keyRunsSpec)

/-- ITS FALSE NEIGHBOUR: 'it returns false'. Refute it at one input. -/
def keyRunsWrong : ChangeSpec := { name := "keyRuns", fn := fun _ => fun
  | [] => { results := [.lit (.bool false)], args := [] }
  | _ => none }
def KeyRunsWrongFalsely : Prop := keyRunsRow.holds Try.pinned (OpenSpec.ofChange keyRunsWrong)

/-- 'cloisterlaw7.KeyTells': WHATEVER THE INPUT: true; the input reads as it did. -/
def keyTellsSpec : ChangeSpec := { name := "keyTells", fn := fun _ => fun
  | [d1, d2] => { results := [.lit (.bool true)], args := [d1, d2] }
  | _ => none }
def keyTellsRow : OpenClaim := { program := "ytncgppdmfnapiaa", sum := "59aedac18ca536d71b73881baaa208c73a46f7bfa143d7b1f2948776f06aa9ae", func := "cloister/cloisterlaw7.KeyTells", spec := "keyTells", recurses := true, plainKeys := false, apart := false }
def KeyTellsSaid : Prop := keyTellsRow.holds Try.pinned (OpenSpec.ofChange keyTellsSpec)

/-- ITS FALSE NEIGHBOUR: 'it returns false'. Refute it at one input. -/
def keyTellsWrong : ChangeSpec := { name := "keyTells", fn := fun _ => fun
  | [d1, d2] => { results := [.lit (.bool false)], args := [d1, d2] }
  | _ => none }
def KeyTellsWrongFalsely : Prop := keyTellsRow.holds Try.pinned (OpenSpec.ofChange keyTellsWrong)

/-- 'cloisterlaw7.KeyRow': WHATEVER THE INPUT: true; the input reads as it did. -/
def keyRowSpec : ChangeSpec := { name := "keyRow", fn := fun _ => fun
  | [d1, d2] => { results := [.lit (.bool true)], args := [d1, d2] }
  | _ => none }
def keyRowRow : OpenClaim := { program := "ytncgppdmfnapiaa", sum := "59aedac18ca536d71b73881baaa208c73a46f7bfa143d7b1f2948776f06aa9ae", func := "cloister/cloisterlaw7.KeyRow", spec := "keyRow", recurses := true, plainKeys := false, apart := false }
def KeyRowSaid : Prop := keyRowRow.holds Try.pinned (OpenSpec.ofChange keyRowSpec)

/-- ITS FALSE NEIGHBOUR: 'it returns false'. Refute it at one input. -/
def keyRowWrong : ChangeSpec := { name := "keyRow", fn := fun _ => fun
  | [d1, d2] => { results := [.lit (.bool false)], args := [d1, d2] }
  | _ => none }
def KeyRowWrongFalsely : Prop := keyRowRow.holds Try.pinned (OpenSpec.ofChange keyRowWrong)

/-- 'cloisterlaw7.KeyKinds': WHATEVER THE INPUT: true; the input reads as it did. -/
def keyKindsSpec : ChangeSpec := { name := "keyKinds", fn := fun _ => fun
  | [d1, d2] => { results := [.lit (.bool true)], args := [d1, d2] }
  | _ => none }
def keyKindsRow : OpenClaim := { program := "ytncgppdmfnapiaa", sum := "59aedac18ca536d71b73881baaa208c73a46f7bfa143d7b1f2948776f06aa9ae", func := "cloister/cloisterlaw7.KeyKinds", spec := "keyKinds", recurses := true, plainKeys := false, apart := false }
def KeyKindsSaid : Prop := keyKindsRow.holds Try.pinned (OpenSpec.ofChange keyKindsSpec)

/-- ITS FALSE NEIGHBOUR: 'it returns false'. Refute it at one input. -/
def keyKindsWrong : ChangeSpec := { name := "keyKinds", fn := fun _ => fun
  | [d1, d2] => { results := [.lit (.bool false)], args := [d1, d2] }
  | _ => none }
def KeyKindsWrongFalsely : Prop := keyKindsRow.holds Try.pinned (OpenSpec.ofChange keyKindsWrong)

/-- 'cloisterlaw7.KeySorts': WHATEVER THE INPUT: true; the input reads as it did. -/
def keySortsSpec : ChangeSpec := { name := "keySorts", fn := fun _ => fun
  | [d1, d2] => { results := [.lit (.bool true)], args := [d1, d2] }
  | _ => none }
def keySortsRow : OpenClaim := { program := "ytncgppdmfnapiaa", sum := "59aedac18ca536d71b73881baaa208c73a46f7bfa143d7b1f2948776f06aa9ae", func := "cloister/cloisterlaw7.KeySorts", spec := "keySorts", unfollowed := true, recurses := true, plainKeys := false, apart := false }
def KeySortsSaid : Prop := keySortsRow.holds Try.pinned (OpenSpec.ofChange keySortsSpec)

/-- ITS FALSE NEIGHBOUR: 'it returns false'. Refute it at one input. -/
def keySortsWrong : ChangeSpec := { name := "keySorts", fn := fun _ => fun
  | [d1, d2] => { results := [.lit (.bool false)], args := [d1, d2] }
  | _ => none }
def KeySortsWrongFalsely : Prop := keySortsRow.holds Try.pinned (OpenSpec.ofChange keySortsWrong)

/-- 'cloisterlaw8.StoreRuns': WHATEVER THE INPUT: true; the input reads as it did. -/
def storeRunsSpec : ChangeSpec := { name := "storeRuns", fn := fun _ => fun
  | [] => { results := [.lit (.bool true)], args := [] }
  | _ => none }
def storeRunsRow : OpenClaim := { program := "ytncgppdmfnapiaa", sum := "59aedac18ca536d71b73881baaa208c73a46f7bfa143d7b1f2948776f06aa9ae", func := "cloister/cloisterlaw8.StoreRuns", spec := "storeRuns", unfollowed := true, recurses := true, plainKeys := false, apart := false }
def StoreRunsSaid : Prop := storeRunsRow.holds Try.pinned (OpenSpec.ofChange storeRunsSpec)

/-- ITS FALSE NEIGHBOUR: 'it returns false'. Refute it at one input. -/
def storeRunsWrong : ChangeSpec := { name := "storeRuns", fn := fun _ => fun
  | [] => { results := [.lit (.bool false)], args := [] }
  | _ => none }
def StoreRunsWrongFalsely : Prop := storeRunsRow.holds Try.pinned (OpenSpec.ofChange storeRunsWrong)

/-- 'cloisterlaw8.StoreTwin': WHATEVER THE INPUT: true; the input reads as it did. -/
def storeTwinSpec : ChangeSpec := { name := "storeTwin", fn := fun _ => fun
  | [d1, d2] => { results := [.lit (.bool true)], args := [d1, d2] }
  | _ => none }
def storeTwinRow : OpenClaim := { program := "ytncgppdmfnapiaa", sum := "59aedac18ca536d71b73881baaa208c73a46f7bfa143d7b1f2948776f06aa9ae", func := "cloister/cloisterlaw8.StoreTwin", spec := "storeTwin", unfollowed := true, recurses := true, plainKeys := false, apart := false }
def StoreTwinSaid : Prop := storeTwinRow.holds Try.pinned (OpenSpec.ofChange storeTwinSpec)

/-- ITS FALSE NEIGHBOUR: 'it returns false'. Refute it at one input. -/
def storeTwinWrong : ChangeSpec := { name := "storeTwin", fn := fun _ => fun
  | [d1, d2] => { results := [.lit (.bool false)], args := [d1, d2] }
  | _ => none }
def StoreTwinWrongFalsely : Prop := storeTwinRow.holds Try.pinned (OpenSpec.ofChange storeTwinWrong)

/-- 'cloisterlaw8.StorePlays': WHATEVER THE INPUT: true; the input reads as it did. -/
def storePlaysSpec : ChangeSpec := { name := "storePlays", fn := fun _ => fun
  | [d] => { results := [.lit (.bool true)], args := [d] }
  | _ => none }
def storePlaysRow : OpenClaim := { program := "ytncgppdmfnapiaa", sum := "59aedac18ca536d71b73881baaa208c73a46f7bfa143d7b1f2948776f06aa9ae", func := "cloister/cloisterlaw8.StorePlays", spec := "storePlays", unfollowed := true, recurses := true, plainKeys := false, apart := false }
def StorePlaysSaid : Prop := storePlaysRow.holds Try.pinned (OpenSpec.ofChange storePlaysSpec)

/-- ITS FALSE NEIGHBOUR: 'it returns false'. Refute it at one input. -/
def storePlaysWrong : ChangeSpec := { name := "storePlays", fn := fun _ => fun
  | [d] => { results := [.lit (.bool false)], args := [d] }
  | _ => none }
def StorePlaysWrongFalsely : Prop := storePlaysRow.holds Try.pinned (OpenSpec.ofChange storePlaysWrong)

/-- 'cloisterlaw8.StoreApart': WHATEVER THE INPUT: true; the input reads as it did. -/
def storeApartSpec : ChangeSpec := { name := "storeApart", fn := fun _ => fun
  | [d1, d2, d3, d4] => { results := [.lit (.bool true)], args := [d1, d2, d3, d4] }
  | _ => none }
def storeApartRow : OpenClaim := { program := "ytncgppdmfnapiaa", sum := "59aedac18ca536d71b73881baaa208c73a46f7bfa143d7b1f2948776f06aa9ae", func := "cloister/cloisterlaw8.StoreApart", spec := "storeApart", unfollowed := true, recurses := true, plainKeys := false, apart := false }
def StoreApartSaid : Prop := storeApartRow.holds Try.pinned (OpenSpec.ofChange storeApartSpec)

/-- ITS FALSE NEIGHBOUR: 'it returns false'. Refute it at one input. -/
def storeApartWrong : ChangeSpec := { name := "storeApart", fn := fun _ => fun
  | [d1, d2, d3, d4] => { results := [.lit (.bool false)], args := [d1, d2, d3, d4] }
  | _ => none }
def StoreApartWrongFalsely : Prop := storeApartRow.holds Try.pinned (OpenSpec.ofChange storeApartWrong)

/- THE SECOND FORM. 'bulk': how many values and letters a reading holds, each counted each time it is reached (what is shared counts as often as it is met; a slice's spare places count too). A statement '..UptoSaid' is the law's where the arguments, and the package variables that the reading takes, are together of bulk at most 1048576: NARROWER than '..Said'. Prove '..Said' where nothing that the law and all that it calls make is longer than what came in: it says more and counts as full. Else prove '..UptoSaid'. A law counts once. -/
mutual
def uptoBulk {H : Type} : DataW H → Nat
  | .lit (.string bytes) => bytes.length + 1
  | .lit _ => 1
  | .nil => 1
  | .ptr d => uptoBulk d + 1
  | .slice elems spare => uptoBulkAll elems + uptoBulkAll spare + 1
  | .agg parts => uptoBulkAll parts + 1
  | .iface _ d => uptoBulk d + 1
  | .map entries => uptoBulkEntries entries + 1
  | .held _ => 1
def uptoBulkAll {H : Type} : List (DataW H) → Nat
  | [] => 0
  | d :: r => uptoBulk d + uptoBulkAll r
def uptoBulkEntries {H : Type} : List (Lit × DataW H) → Nat
  | [] => 0
  | x :: r => uptoBulkEntry x + uptoBulkEntries r
def uptoBulkEntry {H : Type} : Lit × DataW H → Nat
  | (.string bytes, d) => bytes.length + uptoBulk d + 1
  | (_, d) => uptoBulk d + 1
 end
def uptoSmall : (H : Type) → List (DataW H) → Bool := fun _ ds => decide (uptoBulkAll ds ≤ 1048576)
def OpenSpec.upto (s : _root_.Go.ChangeSpec) : _root_.Go.OpenSpec := { _root_.Go.OpenSpec.ofChange s with cond := some uptoSmall }

/-- 'cloisterlaw7.KeyRuns', WHERE WHAT IT READS IS OF BULK AT MOST 1048576: true; the input reads as it did. -/
def keyRunsUptoRow : OpenClaim := { program := "ytncgppdmfnapiaa", sum := "59aedac18ca536d71b73881baaa208c73a46f7bfa143d7b1f2948776f06aa9ae", func := "cloister/cloisterlaw7.KeyRuns", spec := "keyRuns", recurses := true, plainKeys := false, apart := false, narrowed := true }
def KeyRunsUptoSaid : Prop := keyRunsUptoRow.holds Try.pinned (OpenSpec.upto keyRunsSpec)

/-- 'cloisterlaw7.KeyTells', WHERE WHAT IT READS IS OF BULK AT MOST 1048576: true; the input reads as it did. -/
def keyTellsUptoRow : OpenClaim := { program := "ytncgppdmfnapiaa", sum := "59aedac18ca536d71b73881baaa208c73a46f7bfa143d7b1f2948776f06aa9ae", func := "cloister/cloisterlaw7.KeyTells", spec := "keyTells", recurses := true, plainKeys := false, apart := false, narrowed := true }
def KeyTellsUptoSaid : Prop := keyTellsUptoRow.holds Try.pinned (OpenSpec.upto keyTellsSpec)

/-- 'cloisterlaw7.KeyRow', WHERE WHAT IT READS IS OF BULK AT MOST 1048576: true; the input reads as it did. -/
def keyRowUptoRow : OpenClaim := { program := "ytncgppdmfnapiaa", sum := "59aedac18ca536d71b73881baaa208c73a46f7bfa143d7b1f2948776f06aa9ae", func := "cloister/cloisterlaw7.KeyRow", spec := "keyRow", recurses := true, plainKeys := false, apart := false, narrowed := true }
def KeyRowUptoSaid : Prop := keyRowUptoRow.holds Try.pinned (OpenSpec.upto keyRowSpec)

/-- 'cloisterlaw7.KeyKinds', WHERE WHAT IT READS IS OF BULK AT MOST 1048576: true; the input reads as it did. -/
def keyKindsUptoRow : OpenClaim := { program := "ytncgppdmfnapiaa", sum := "59aedac18ca536d71b73881baaa208c73a46f7bfa143d7b1f2948776f06aa9ae", func := "cloister/cloisterlaw7.KeyKinds", spec := "keyKinds", recurses := true, plainKeys := false, apart := false, narrowed := true }
def KeyKindsUptoSaid : Prop := keyKindsUptoRow.holds Try.pinned (OpenSpec.upto keyKindsSpec)

/-- 'cloisterlaw7.KeySorts', WHERE WHAT IT READS IS OF BULK AT MOST 1048576: true; the input reads as it did. -/
def keySortsUptoRow : OpenClaim := { program := "ytncgppdmfnapiaa", sum := "59aedac18ca536d71b73881baaa208c73a46f7bfa143d7b1f2948776f06aa9ae", func := "cloister/cloisterlaw7.KeySorts", spec := "keySorts", unfollowed := true, recurses := true, plainKeys := false, apart := false, narrowed := true }
def KeySortsUptoSaid : Prop := keySortsUptoRow.holds Try.pinned (OpenSpec.upto keySortsSpec)

/-- 'cloisterlaw8.StoreRuns', WHERE WHAT IT READS IS OF BULK AT MOST 1048576: true; the input reads as it did. -/
def storeRunsUptoRow : OpenClaim := { program := "ytncgppdmfnapiaa", sum := "59aedac18ca536d71b73881baaa208c73a46f7bfa143d7b1f2948776f06aa9ae", func := "cloister/cloisterlaw8.StoreRuns", spec := "storeRuns", unfollowed := true, recurses := true, plainKeys := false, apart := false, narrowed := true }
def StoreRunsUptoSaid : Prop := storeRunsUptoRow.holds Try.pinned (OpenSpec.upto storeRunsSpec)

/-- 'cloisterlaw8.StoreTwin', WHERE WHAT IT READS IS OF BULK AT MOST 1048576: true; the input reads as it did. -/
def storeTwinUptoRow : OpenClaim := { program := "ytncgppdmfnapiaa", sum := "59aedac18ca536d71b73881baaa208c73a46f7bfa143d7b1f2948776f06aa9ae", func := "cloister/cloisterlaw8.StoreTwin", spec := "storeTwin", unfollowed := true, recurses := true, plainKeys := false, apart := false, narrowed := true }
def StoreTwinUptoSaid : Prop := storeTwinUptoRow.holds Try.pinned (OpenSpec.upto storeTwinSpec)

/-- 'cloisterlaw8.StorePlays', WHERE WHAT IT READS IS OF BULK AT MOST 1048576: true; the input reads as it did. -/
def storePlaysUptoRow : OpenClaim := { program := "ytncgppdmfnapiaa", sum := "59aedac18ca536d71b73881baaa208c73a46f7bfa143d7b1f2948776f06aa9ae", func := "cloister/cloisterlaw8.StorePlays", spec := "storePlays", unfollowed := true, recurses := true, plainKeys := false, apart := false, narrowed := true }
def StorePlaysUptoSaid : Prop := storePlaysUptoRow.holds Try.pinned (OpenSpec.upto storePlaysSpec)

/-- 'cloisterlaw8.StoreApart', WHERE WHAT IT READS IS OF BULK AT MOST 1048576: true; the input reads as it did. -/
def storeApartUptoRow : OpenClaim := { program := "ytncgppdmfnapiaa", sum := "59aedac18ca536d71b73881baaa208c73a46f7bfa143d7b1f2948776f06aa9ae", func := "cloister/cloisterlaw8.StoreApart", spec := "storeApart", unfollowed := true, recurses := true, plainKeys := false, apart := false, narrowed := true }
def StoreApartUptoSaid : Prop := storeApartUptoRow.holds Try.pinned (OpenSpec.upto storeApartSpec)

end Rows
end Go.Proofs.Ytncgppdmfnapiaa
