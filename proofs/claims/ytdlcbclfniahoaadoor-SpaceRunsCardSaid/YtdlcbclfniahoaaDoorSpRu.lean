/- The walk of cloisterlaw16.SpaceRuns. Where the library's table holds what its initialiser lays. -/
import Derived.Test.YtdlcbclfniahoaaDoorSpK
import Derived.Test.YtdlcbclfniahoaaDoorDoorS
namespace Go.Proofs.YtdlcbclfniahoaaDoor.St
open Go.RowKit
theorem spaceRuns_walk (w : World) (hM : Bx w) :
    Calls Tryd.prog 3 #[] w fun e w' => e = .returned (.bool true) ∧ Below w.heap.size w w' := spaceRuns_any w hM
end Go.Proofs.YtdlcbclfniahoaaDoor.St
