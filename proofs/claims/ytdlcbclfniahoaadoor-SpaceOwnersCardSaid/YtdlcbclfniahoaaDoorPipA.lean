/- The contracts of package pipe: key, table, Is, mark, over a view in memory. No condition but those written in each statement. -/
import Derived.Test.YtdlcbclfniahoaaDoorInoD
import Derived.Deep.RegionWith
namespace Go.Proofs.YtdlcbclfniahoaaDoor.St
open Go.RowKit
set_option linter.unusedVariables false

attribute [local go_sem] blk_alloc_at blk_alloc_past blk_drew blk_drewN blk_setB_same blk_setB_other blk_setRow_other setRow_alloc_at setRow_alloc_past setRow_drewN setRow_drew setB_size setB_cell setB_frozen setB_alloc_past setB_drewN setB_drew run_loadV loadOr_cells run_storeV storeOr_cells cells_size ones_cells cells_0 cells_1 cells_2 cells_16 cells_g0 cells_g1 cells_g2 cells_g16 cells_set0 cells_set1 cells_set2 cells_text
attribute [local go_sem ↓] execOp_loadV execOp_storeV
attribute [local go_sem ↓] wp_at0 wp_at1 wp_at2 wp_at3 wp_at4 wp_at5 wp_at6 wp_at7

/-- The sixteen numbers of a value, as an array. -/
def Val.row (x : Val) : Array Value := #[.int .i64 (x.n 0), .int .i64 (x.n 1), .int .i64 (x.n 2), .int .i64 (x.n 3), .int .i64 (x.n 4), .int .i64 (x.n 5), .int .i64 (x.n 6), .int .i64 (x.n 7), .int .i64 (x.n 8), .int .i64 (x.n 9), .int .i64 (x.n 10), .int .i64 (x.n 11), .int .i64 (x.n 12), .int .i64 (x.n 13), .int .i64 (x.n 14), .int .i64 (x.n 15)]
theorem run_fieldN (x : Val) (W : World) : (Instr.field 45 (.agg x.cells) 0).run Tryd.prog W = .ok (.agg x.row) W := by kernel_rfl
theorem run_indexN (x : Val) (W : World) : (Instr.index 43 (.agg x.row) (.int .i64 0)).run Tryd.prog W = .ok (.int .i64 (x.n 0)) W := by kernel_rfl
attribute [local go_sem] run_fieldN run_indexN

/-- Is there such a pipe; what was read to know it. -/
def pHas (st : VSt) (q : Int) : Bool := if q < 0 ∨ 4 ≤ q then false else usedI ((st.get 7 0).n 0) q.toNat
def pSaw (st : VSt) (q : Int) : VSt := if q < 0 ∨ 4 ≤ q then st else st.saw 7 0

theorem usedI_def (x : Int) (j : Nat) : (bits BinOp.and IntKind.i64 (x / 2 ^ j) 1 == 1) = usedI x j := by rw [usedI]
theorem usedI_dec (x : Int) (j : Nat) : decide (bits BinOp.and IntKind.i64 (x / 2 ^ j) 1 = 1) = usedI x j := by
  unfold usedI
  by_cases h : bits BinOp.and IntKind.i64 (x / 2 ^ j) 1 = 1
  · rw [h]; rfl
  · rw [decide_eq_false h]; symm; simpa using h

attribute [local irreducible] Int.lt Int.le
/-- A pipe's mark in the table. -/
def unmarkN (x : Int) (j : Nat) : Int := bits BinOp.andNot IntKind.i64 x (wrap64 (2 ^ j))
theorem unmarkN_def (x : Int) (j : Nat) : bits BinOp.andNot IntKind.i64 x (wrap64 (2 ^ j)) = unmarkN x j := by rw [unmarkN]
def pMarkI (x : Int) (j : Nat) (on : Bool) : Int := if on then markI (unmarkN x j) j else unmarkN x j
def pMark (st : VSt) (j : Nat) (on : Bool) : VSt := (st.saw 7 0).put 7 0 ((st.get 7 0).set 0 (pMarkI ((st.get 7 0).n 0) j on))

theorem set0_set0 (x : Val) (a b : Int) : (x.set 0 a).set 0 b = x.set 0 b := by
  unfold Val.set; congr 1; funext i; by_cases h : i = 0 <;> simp [h]
theorem set0_n0 (x : Val) (a : Int) : (x.set 0 a).n 0 = a := by simp [Val.set]

end Go.Proofs.YtdlcbclfniahoaaDoor.St
