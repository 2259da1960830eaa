/- The contract of inode.Change over a view in memory. No condition but those written in each statement. -/
import Derived.Test.YtdlcbclfniahoaaDoorInoC
namespace Go.Proofs.YtdlcbclfniahoaaDoor.St
open Go.RowKit
set_option linter.unusedVariables false

attribute [local go_sem] blk_alloc_at blk_alloc_past blk_drew blk_drewN blk_setB_same blk_setB_other blk_setRow_other setRow_alloc_at setRow_alloc_past setRow_drewN setRow_drew setB_size setB_cell setB_frozen setB_alloc_past setB_drewN setB_drew run_loadV loadOr_cells run_storeV storeOr_cells cells_size ones_cells cells_0 cells_1 cells_2 cells_16 cells_g0 cells_g1 cells_g2 cells_g16 cells_set0 cells_set1 cells_set2 cells_text
attribute [local go_sem ↓] execOp_loadV execOp_storeV
attribute [local go_sem ↓] wp_at0 wp_at1 wp_at2 wp_at3 wp_at4 wp_at5 wp_at6 wp_at7

/-- What an inode's value is behind a change of its links and holders. -/
def iTurn (x : Val) (l h : Int) : Val := (x.set 1 (wrap64 (x.n 1 + l))).set 2 (wrap64 ((x.set 1 (wrap64 (x.n 1 + l))).n 2 + h))
theorem iTurn_fold (x : Val) (l h : Int) : (x.set 1 (wrap64 (x.n 1 + l))).set 2 (wrap64 ((x.set 1 (wrap64 (x.n 1 + l))).n 2 + h)) = iTurn x l h := by rw [iTurn]
attribute [local go_sem] iTurn_fold

/-- A number with bit j taken off, as the code does it. -/
def unmarkI (x : Int) (j : Int) : Int := bits BinOp.andNot IntKind.i64 x (wrap64 (2 ^ j.toNat))

theorem has_in {st : VSt} {i : Int} (h : iHas st i = true) : 1 ≤ i ∧ i < 16 := by
  unfold iHas at h
  split at h
  · exact absurd h (by decide)
  · omega

/-- inode.Change: what it answers is 'iHas'; what the view is behind it. -/
def iChange (st : VSt) (i l h : Int) : VSt :=
  if iHas st i = false then iSaw st i
  else if (iTurn (iVal st i) l h).n 1 ≤ 0 ∧ (iTurn (iVal st i) l h).n 2 ≤ 0 then
    (((iSaw st i).saw 9 0).put 9 0 (((iSaw st i).get 9 0).set 0 (unmarkI (((iSaw st i).get 9 0).n 0) i))).put 10 i Val.zero
  else (iSaw st i).put 10 i (iTurn (iVal st i) l h)

end Go.Proofs.YtdlcbclfniahoaaDoor.St
