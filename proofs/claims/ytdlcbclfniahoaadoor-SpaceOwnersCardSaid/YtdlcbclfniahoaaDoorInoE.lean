/- The contract of inode.Read and inode.Write over a view in memory. No condition but those written in each statement. -/
import Derived.Test.YtdlcbclfniahoaaDoorInoD
namespace Go.Proofs.YtdlcbclfniahoaaDoor.St
open Go.RowKit
set_option linter.unusedVariables false

attribute [local go_sem] blk_alloc_at blk_alloc_past blk_drew blk_drewN blk_setB_same blk_setB_other blk_setRow_other setRow_alloc_at setRow_alloc_past setRow_drewN setRow_drew setB_size setB_cell setB_frozen setB_alloc_past setB_drewN setB_drew run_loadV loadOr_cells run_storeV storeOr_cells cells_size ones_cells cells_0 cells_1 cells_2 cells_16 cells_g0 cells_g1 cells_g2 cells_g16 cells_set0 cells_set1 cells_set2 cells_text
attribute [local go_sem ↓] execOp_loadV execOp_storeV
attribute [local go_sem ↓] wp_at0 wp_at1 wp_at2 wp_at3 wp_at4 wp_at5 wp_at6 wp_at7

theorem wrap_small (z : Int) (h1 : 0 ≤ z) (h2 : z ≤ 281474976710656) : wrap64 z = z := by unfold wrap64; omega

theorem string_type : Tryd.prog.underlying 9 = some .string := by kernel_rfl

attribute [local irreducible] Int.lt Int.le
def iRead (st : VSt) (i off n : Int) : ByteArray :=
  if off < 0 ∨ ((iVal st i).s.size : Int) ≤ off ∨ n < 1 then ByteArray.empty else (iVal st i).s.extract off.toNat (off + min n ((iVal st i).s.size - off)).toNat

end Go.Proofs.YtdlcbclfniahoaaDoor.St
