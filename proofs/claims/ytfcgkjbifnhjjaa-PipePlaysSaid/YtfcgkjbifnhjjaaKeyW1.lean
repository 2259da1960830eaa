/- The contract of key.Within of a list of one key that is there. No condition but those written in each statement. -/
import Derived.Test.YtfcgkjbifnhjjaaKeySg
namespace Go.Proofs.Ytfcgkjbifnhjjaa.St
open Go.RowKit
set_option linter.unusedVariables false

theorem kr_one {W : World} {g : Nat} {A C : Int} (h0 : W.cell? ⟨g, 0, none⟩ = some (.int .i64 A)) (h1 : W.cell? ⟨g, 1, none⟩ = some (.int .i64 C)) : KR W (some ⟨g, 0, none⟩) 1 (fun _ => (A, C)) := fun i hi => by
  obtain rfl : i = 0 := by omega
  exact ⟨⟨g, 0, none⟩, rfl, h0, h1⟩
theorem kw_one {n : Nat} {z : Nat → Int × Int} {A C : Int} (hh : kHas z n (A, C)) : kWithin (fun _ => (A, C)) 1 z n := fun i hi => lacks_no hh
end Go.Proofs.Ytfcgkjbifnhjjaa.St
