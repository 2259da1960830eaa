/- The contract of cloisterbook.Intact of keys, where the list is as it was. No condition but those written in each statement. -/
import Derived.Test.YtfcgkjbifnhjjaaKeyWi
namespace Go.Proofs.Ytfcgkjbifnhjjaa.St
open Go.RowKit
set_option linter.unusedVariables false

theorem same_kr {W : World} {a b : Option Addr} {n : Nat} {z : Nat → Int × Int} (ha : KR W a n z) (hb : KR W b n z) : ∀ i, i < n → ∃ x y A C, a = some x ∧ b = some y ∧ W.cell? (x.add (i * 2)) = some (.int .i64 A) ∧ W.cell? ⟨(x.add (i * 2)).block, (x.add (i * 2)).off + 1, none⟩ = some (.int .i64 C) ∧ W.cell? (y.add (i * 2)) = some (.int .i64 A) ∧ W.cell? ⟨(y.add (i * 2)).block, (y.add (i * 2)).off + 1, none⟩ = some (.int .i64 C) := fun i hi => by
  obtain ⟨x, e, c0, c1⟩ := ha i hi
  obtain ⟨y, f, d0, d1⟩ := hb i hi
  exact ⟨x, y, _, _, e, f, c0, c1, d0, d1⟩

attribute [local irreducible] Int.lt Int.le
end Go.Proofs.Ytfcgkjbifnhjjaa.St
