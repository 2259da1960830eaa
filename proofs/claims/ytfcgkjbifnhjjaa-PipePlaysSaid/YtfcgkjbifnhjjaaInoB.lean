/- The contracts of package inode: Is, Type, Links, Size, over a view in memory. No condition but those written in each statement. -/
import Derived.Test.YtfcgkjbifnhjjaaInoA
namespace Go.Proofs.Ytfcgkjbifnhjjaa.St
open Go.RowKit
set_option linter.unusedVariables false

attribute [local go_sem] blk_alloc_at blk_alloc_past blk_drew blk_drewN blk_setB_same blk_setB_other blk_setRow_other setRow_alloc_at setRow_alloc_past setRow_drewN setRow_drew setB_size setB_cell setB_frozen setB_alloc_past setB_drewN setB_drew run_loadV loadOr_cells run_storeV storeOr_cells cells_size ones_cells cells_0 cells_1 cells_2 cells_16 cells_g0 cells_g1 cells_g2 cells_g16 cells_set0 cells_set1 cells_set2 cells_text
attribute [local go_sem ↓] execOp_loadV execOp_storeV

theorem iis_any (L : Lay) (st : VSt) (i : Int) (w : World) (hV : ViewAt w L st) :
    Calls Try.prog 19 #[.pointer (some ⟨L.v, 0, none⟩), .int .i64 i] w fun e w' => e = .returned (.bool (iHas st i)) ∧ ViewAt w' L (iSaw st i) ∧ Turn (· = L.r) w w' := by
  have lt := hV.lts
  have hz := zero_val
  go_enter Try.func19, Try.ntmps19
  go_wp2_with fail
  refine (iget_any L st i _ hV).mono ?_; rintro e w1 ⟨rfl, hv1, t1⟩
  go_wp2_with fail
  go_ret
  have tl : Turn (fun j => w.heap.size ≤ j) w1 (w1.alloc (Obj.cells (iVal st i).cells 47)) := (Turn.refl _ _).alloc _
  exact ⟨rfl, hv1.off tl lt, t1.offS tl (Nat.le_refl _)⟩

theorem itype_any (L : Lay) (st : VSt) (i : Int) (w : World) (hV : ViewAt w L st) :
    Calls Try.prog 20 #[.pointer (some ⟨L.v, 0, none⟩), .int .i64 i] w fun e w' => e = .returned (.int .i64 ((iVal st i).n 0)) ∧ ViewAt w' L (iSaw st i) ∧ Turn (· = L.r) w w' := by
  have lt := hV.lts
  have hz := zero_val
  go_enter Try.func20, Try.ntmps20
  go_wp2_with fail
  refine (iget_any L st i _ hV).mono ?_; rintro e w1 ⟨rfl, hv1, t1⟩
  go_wp2_with fail
  go_ret
  have tl : Turn (fun j => w.heap.size ≤ j) w1 (w1.alloc (Obj.cells (iVal st i).cells 47)) := (Turn.refl _ _).alloc _
  exact ⟨rfl, hv1.off tl lt, t1.offS tl (Nat.le_refl _)⟩

theorem ilinks_any (L : Lay) (st : VSt) (i : Int) (w : World) (hV : ViewAt w L st) :
    Calls Try.prog 21 #[.pointer (some ⟨L.v, 0, none⟩), .int .i64 i] w fun e w' => e = .returned (.int .i64 ((iVal st i).n 1)) ∧ ViewAt w' L (iSaw st i) ∧ Turn (· = L.r) w w' := by
  have lt := hV.lts
  have hz := zero_val
  go_enter Try.func21, Try.ntmps21
  go_wp2_with fail
  refine (iget_any L st i _ hV).mono ?_; rintro e w1 ⟨rfl, hv1, t1⟩
  go_wp2_with fail
  go_ret
  have tl : Turn (fun j => w.heap.size ≤ j) w1 (w1.alloc (Obj.cells (iVal st i).cells 47)) := (Turn.refl _ _).alloc _
  exact ⟨rfl, hv1.off tl lt, t1.offS tl (Nat.le_refl _)⟩

theorem isize_any (L : Lay) (st : VSt) (i : Int) (w : World) (hV : ViewAt w L st) :
    Calls Try.prog 22 #[.pointer (some ⟨L.v, 0, none⟩), .int .i64 i] w fun e w' => e = .returned (.int .i64 ((iVal st i).s.size)) ∧ ViewAt w' L (iSaw st i) ∧ Turn (· = L.r) w w' := by
  have lt := hV.lts
  have hz := zero_val
  go_enter Try.func22, Try.ntmps22
  go_wp2_with fail
  refine (iget_any L st i _ hV).mono ?_; rintro e w1 ⟨rfl, hv1, t1⟩
  go_wp2_with fail
  go_ret
  have tl : Turn (fun j => w.heap.size ≤ j) w1 (w1.alloc (Obj.cells (iVal st i).cells 47)) := (Turn.refl _ _).alloc _
  exact ⟨rfl, hv1.off tl lt, t1.offS tl (Nat.le_refl _)⟩

end Go.Proofs.Ytfcgkjbifnhjjaa.St
