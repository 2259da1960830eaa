/- The contract of inode.Write over a view in memory. No condition but those written in each statement. -/
import Derived.Test.YtdlcbclfniahoaaDoorInoE
namespace Go.Proofs.YtdlcbclfniahoaaDoor.St
open Go.RowKit
set_option linter.unusedVariables false

attribute [local go_sem] blk_alloc_at blk_alloc_past blk_drew blk_drewN blk_setB_same blk_setB_other blk_setRow_other setRow_alloc_at setRow_alloc_past setRow_drewN setRow_drew setB_size setB_cell setB_frozen setB_alloc_past setB_drewN setB_drew run_loadV loadOr_cells run_storeV storeOr_cells cells_size ones_cells cells_0 cells_1 cells_2 cells_16 cells_g0 cells_g1 cells_g2 cells_g16 cells_set0 cells_set1 cells_set2 cells_text
attribute [local go_sem ↓] execOp_loadV execOp_storeV
attribute [local go_sem ↓] wp_at0 wp_at1 wp_at2 wp_at3 wp_at4 wp_at5 wp_at6 wp_at7

/-- As much of a text as is taken at an offset. -/
def iPart (d : ByteArray) (off : Int) : ByteArray := d.extract 0 (min (d.size : Int) (128 - off)).toNat
/-- A text with another written over it at an offset. -/
def iOver (s : ByteArray) (off : Int) (D : ByteArray) : ByteArray := s.extract 0 off.toNat ++ D ++ s.extract (min (s.size : Int) (off + D.size)).toNat s.size

theorem part_all (d : ByteArray) (off : Int) (c : (d.size : Int) ≤ 128 - off) : iPart d off = d := by
  unfold iPart
  rw [show (min (d.size : Int) (128 - off)).toNat = d.size by omega, ByteArray.extract_zero_size]
theorem part_some (d : ByteArray) (off : Int) (c : 128 - off < (d.size : Int)) : iPart d off = d.extract 0 (128 - off).toNat := by
  unfold iPart
  rw [show (min (d.size : Int) (128 - off)) = 128 - off by omega]
theorem part_size (d : ByteArray) (off : Int) (h : 0 ≤ 128 - off) : ((iPart d off).size : Int) = min (d.size : Int) (128 - off) := by
  unfold iPart; rw [ByteArray.size_extract]; omega
theorem over_mid (s D : ByteArray) (off : Int) (h : off + D.size < (s.size : Int)) : iOver s off D = s.extract 0 off.toNat ++ D ++ s.extract (off + D.size).toNat s.size := by
  unfold iOver; rw [show min (s.size : Int) (off + D.size) = off + D.size by omega]
theorem over_end (s D : ByteArray) (off : Int) (h : (s.size : Int) ≤ off + D.size) : iOver s off D = s.extract 0 off.toNat ++ D := by
  unfold iOver
  rw [show (min (s.size : Int) (off + D.size)).toNat = s.size by omega]
  have : s.extract s.size s.size = ByteArray.empty := by
    apply ByteArray.ext; simp
  rw [this, ByteArray.append_empty]

theorem over1 (s d : ByteArray) (off : Int) (c : (d.size : Int) ≤ 128 - off) (h : off + d.size < (s.size : Int)) : s.extract 0 off.toNat ++ d ++ s.extract (off + d.size).toNat s.size = iOver s off (iPart d off) := by
  rw [part_all d off c, over_mid _ _ _ h]
theorem over2 (s d : ByteArray) (off : Int) (c : (d.size : Int) ≤ 128 - off) (h : (s.size : Int) ≤ off + d.size) : s.extract 0 off.toNat ++ d = iOver s off (iPart d off) := by
  rw [part_all d off c, over_end _ _ _ h]
theorem over3 (s d : ByteArray) (off : Int) (c : 128 - off < (d.size : Int)) (g : off ≤ 128) (h : off + (min (128 - off).toNat d.size : Nat) < (s.size : Int)) :
    s.extract 0 off.toNat ++ d.extract 0 (128 - off).toNat ++ s.extract (off + (min (128 - off).toNat d.size : Nat)).toNat s.size = iOver s off (iPart d off) := by
  have hp := part_size d off (by omega)
  rw [over_mid _ _ _ (by omega), part_some d off c]
  rw [part_some d off c] at hp
  rw [hp, show ((min (128 - off).toNat d.size : Nat) : Int) = min (d.size : Int) (128 - off) by omega]
theorem over4 (s d : ByteArray) (off : Int) (c : 128 - off < (d.size : Int)) (g : off ≤ 128) (h : (s.size : Int) ≤ off + (min (128 - off).toNat d.size : Nat)) :
    s.extract 0 off.toNat ++ d.extract 0 (128 - off).toNat = iOver s off (iPart d off) := by
  have hp := part_size d off (by omega)
  rw [over_end _ _ _ (by omega), part_some d off c]

attribute [local irreducible] Int.lt Int.le
/-- May something be written there? -/
def iMay (st : VSt) (i off : Int) : Prop := iHas st i = true ∧ 0 ≤ off ∧ off ≤ 128 ∧ off ≤ ((iVal st i).s.size : Int)
instance (st : VSt) (i off : Int) : Decidable (iMay st i off) := by unfold iMay; exact inferInstance
def iWrite (st : VSt) (i off : Int) (d : ByteArray) : VSt := if iMay st i off then (iSaw st i).put 10 i ((iVal st i).text (iOver (iVal st i).s off (iPart d off))) else iSaw st i
def iWrote (st : VSt) (i off : Int) (d : ByteArray) : Int := if iMay st i off then ((iPart d off).size : Int) else -1

end Go.Proofs.YtdlcbclfniahoaaDoor.St
