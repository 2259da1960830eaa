/- The contract of inode.Alloc over a view in memory. No condition but those written in each statement. -/
import Derived.Test.YtdlcbclfniahoaaDoorInoB
namespace Go.Proofs.YtdlcbclfniahoaaDoor.St
open Go.RowKit
set_option linter.unusedVariables false

attribute [local go_sem] blk_alloc_at blk_alloc_past blk_drew blk_drewN blk_setB_same blk_setB_other blk_setRow_other setRow_alloc_at setRow_alloc_past setRow_drewN setRow_drew setB_size setB_cell setB_frozen setB_alloc_past setB_drewN setB_drew run_loadV loadOr_cells run_storeV storeOr_cells cells_size ones_cells cells_0 cells_1 cells_2 cells_16 cells_g0 cells_g1 cells_g2 cells_g16 cells_set0 cells_set1 cells_set2 cells_text
attribute [local go_sem ↓] execOp_loadV execOp_storeV
attribute [local go_sem ↓] wp_at0 wp_at1 wp_at2 wp_at3 wp_at4 wp_at5 wp_at6 wp_at7

/-- Is bit j of a number set, as the code asks it? -/
def usedI (x : Int) (j : Nat) : Bool := bits BinOp.and IntKind.i64 (x / 2 ^ j) 1 == 1
/-- The number with bit j set, as the code does it. -/
def markI (x : Int) (j : Nat) : Int := bits BinOp.or IntKind.i64 x (wrap64 (2 ^ j))
/-- The least j from 16 - d on, below 16, whose bit is not set; 16: none. -/
def freeN (x : Int) : Nat → Nat
  | 0 => 16
  | d + 1 => if usedI x (15 - d) = true then freeN x d else 15 - d
def iFree (st : VSt) : Nat := freeN ((st.get 9 0).n 0) 15
def iTake (st : VSt) (j : Nat) (t : Int) : VSt := ((st.saw 9 0).put 9 0 ((st.get 9 0).set 0 (markI ((st.get 9 0).n 0) j))).put 10 j (Val.zero.set 0 t)
def iAlloc (st : VSt) (t : Int) : VSt := if iFree st < 16 then iTake st (iFree st) t else st.saw 9 0
def iGot (st : VSt) : Int := if iFree st < 16 then (iFree st : Int) else 0

theorem freeN_hit (x : Int) (j : Nat) (h : j < 16) (hb : usedI x j = false) : freeN x (16 - j) = j := by
  have e : 16 - j = (15 - j) + 1 := by omega
  rw [e, freeN, show 15 - (15 - j) = j by omega, hb]
  rfl
theorem freeN_past (x : Int) (j : Nat) (h : j < 16) (hb : usedI x j = true) : freeN x (16 - j) = freeN x (16 - (j + 1)) := by
  have e : 16 - j = (15 - j) + 1 := by omega
  rw [e, freeN, show 15 - (15 - j) = j by omega, if_pos hb, show 16 - (j + 1) = 15 - j by omega]

theorem markI_def (x : Int) (j : Nat) : bits BinOp.or IntKind.i64 x (wrap64 (2 ^ j)) = markI x j := by rw [markI]

end Go.Proofs.YtdlcbclfniahoaaDoor.St
