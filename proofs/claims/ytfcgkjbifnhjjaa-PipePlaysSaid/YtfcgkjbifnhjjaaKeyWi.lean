/- The contract of key.Within: is each object of a one of b. No condition but those written in each statement. -/
import Derived.Test.YtfcgkjbifnhjjaaKeyKi
import Derived.Laws.StructEq
import Derived.BigQuiet
namespace Go.Proofs.Ytfcgkjbifnhjjaa.St
open Go.RowKit
set_option linter.unusedVariables false

/-- A slice of n keys, as the numbers at its cells. -/
def KR (W : World) (a : Option Addr) (n : Nat) (z : Nat → Int × Int) : Prop := ∀ i, i < n → ∃ x, a = some x ∧ W.cell? (x.add (i * 2)) = some (.int .i64 (z i).1) ∧ W.cell? ⟨(x.add (i * 2)).block, (x.add (i * 2)).off + 1, none⟩ = some (.int .i64 (z i).2)
theorem KR.below {W W' : World} {a : Option Addr} {n : Nat} {z : Nat → Int × Int} (h : KR W a n z) (hb : Below W.heap.size W W') : KR W' a n z := fun i hi => by
  obtain ⟨x, e, c0, c1⟩ := h i hi
  exact ⟨x, e, (hb.cell (cell_block_lt c0)).trans c0, (hb.cell (cell_block_lt c1)).trans c1⟩
/-- Is a key among the first n? -/
def kHas (z : Nat → Int × Int) (n : Nat) (k : Int × Int) : Prop := ∃ i, i < n ∧ z i = k
instance (z : Nat → Int × Int) (n : Nat) (k : Int × Int) : Decidable (kHas z n k) := by unfold kHas; exact inferInstance

attribute [local irreducible] Int.lt Int.le
/-- What the function literal of key.Within asks of a key: it is there, and is none of b. -/
def kLacks (z : Nat → Int × Int) (n : Nat) (k m : Int) : Bool := decide (0 ≤ placeI k m) && !decide (kHas z n (k, m))

/-- key.Within: every key of a that is there is one of b. -/
def kWithin (y : Nat → Int × Int) (l : Nat) (z : Nat → Int × Int) (n : Nat) : Prop := ∀ i, i < l → kLacks z n (y i).1 (y i).2 = false
end Go.Proofs.Ytfcgkjbifnhjjaa.St
