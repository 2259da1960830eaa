/- The contracts of package inode: Is, Type, Links, Size, over a view in memory. No condition but those written in each statement. -/
import Derived.Test.YtdlcbclfniahoaaDoorInoA
namespace Go.Proofs.YtdlcbclfniahoaaDoor.St
open Go.RowKit
set_option linter.unusedVariables false

attribute [local go_sem] blk_alloc_at blk_alloc_past blk_drew blk_drewN blk_setB_same blk_setB_other blk_setRow_other setRow_alloc_at setRow_alloc_past setRow_drewN setRow_drew setB_size setB_cell setB_frozen setB_alloc_past setB_drewN setB_drew run_loadV loadOr_cells run_storeV storeOr_cells cells_size ones_cells cells_0 cells_1 cells_2 cells_16 cells_g0 cells_g1 cells_g2 cells_g16 cells_set0 cells_set1 cells_set2 cells_text
attribute [local go_sem ↓] execOp_loadV execOp_storeV

end Go.Proofs.YtdlcbclfniahoaaDoor.St
