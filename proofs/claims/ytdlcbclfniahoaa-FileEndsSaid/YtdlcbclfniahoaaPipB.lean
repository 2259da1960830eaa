/- The contract of pipe.mark over a view in memory. No condition but those written in each statement. -/
import Derived.Test.YtdlcbclfniahoaaPipA
import Derived.Deep.Cut
namespace Go.Proofs.Ytdlcbclfniahoaa.St
open Go.RowKit
set_option linter.unusedVariables false

attribute [local go_sem] blk_alloc_at blk_alloc_past blk_drew blk_drewN blk_setB_same blk_setB_other blk_setRow_other setRow_alloc_at setRow_alloc_past setRow_drewN setRow_drew setB_size setB_cell setB_frozen setB_alloc_past setB_drewN setB_drew run_loadV loadOr_cells run_storeV storeOr_cells cells_size ones_cells cells_0 cells_1 cells_2 cells_16 cells_g0 cells_g1 cells_g2 cells_g16 cells_set0 cells_set1 cells_set2 cells_text
attribute [local go_sem ↓] execOp_loadV execOp_storeV
attribute [local go_sem ↓] wp_at0 wp_at1 wp_at2 wp_at3 wp_at4 wp_at5 wp_at6 wp_at7

attribute [local go_sem] run_fieldN run_indexN unmarkN_def markI_def set0_n0 set0_set0

theorem pMarkI_on (x : Int) (j : Nat) : pMarkI x j true = markI (unmarkN x j) j := rfl
theorem pMarkI_off (x : Int) (j : Nat) : pMarkI x j false = unmarkN x j := rfl
set_option maxRecDepth 20000 in
theorem pmark_off (L : Lay) (st : VSt) (j : Nat) (h1 : j < 4) (w : World) (hV : ViewAt w L st) :
    Calls Try.prog 46 #[.pointer (some ⟨L.v, 0, none⟩), .int .i64 j, .bool false] w fun e w' => e = .returned (.tuple #[]) ∧ ViewAt w' L (pMark st j false) ∧ Turn (fun k => k = L.r ∨ k = L.m) w w' := by
  have hz := zero_val
  have lt := hV.lts
  have g1 : (0 : Int) ≤ (j : Int) := by omega
  have g2 : (j : Int) < 4 := by omega
  go_enter Try.func46, Try.ntmps46
  go_wp2_with fail
  refine (ptable_any _).mono ?_; rintro e w1 ⟨rfl, t1⟩
  have hv1 := hV.below t1
  go_wp2_with fail
  refine (vget_any L st 7 0 _ hv1).mono ?_; rintro e w2 ⟨rfl, hv2, t2⟩
  have t2' := (Turn.of_below t1 _).trans t2
  generalize hx : st.get 7 0 = x at *
  clear t1 hv1 t2
  go_wp2_with fail
  generalize hy : x.set 0 (unmarkN (x.n 0) j) = y at *
  have b2 : blk (w2.alloc (Obj.cells y.cells 58)) w2.heap.size = some (.cells y.cells 58 (0, 0)) := blk_alloc_at _ _ _ rfl
  have hv3 := hv2.alloc (Obj.cells y.cells 58)
  have t3 := t2'.alloc (Obj.cells y.cells 58)
  clear hv2 t2'
  generalize w2.alloc (Obj.cells y.cells 58) = W2 at *
  generalize w2.heap.size = B at *
  obtain ⟨bd, vd, sd⟩ := at_drew b2 hv3
  go_region_with (first
    | (go_at_call 45; refine (ptable_any _).mono ?_; rintro e w8 ⟨rfl, t8⟩; have b8 := blk_below t8 bd sd; have v8 := vd.below t8; have r8 := t8.size)
    | (go_at_call 25; refine (vput_any L (st.saw 7 0) 7 0 y _ (by assumption)).mono ?_; rintro e w9 ⟨rfl, hv9, t9⟩))
  all_goals
    clear b2 hv3 bd vd b8 v8
    go_wp2_with fail
    go_end0
    exact ⟨rfl, by unfold pMark; rw [hx, pMarkI_off, hy]; exact hv9, ((t3.mono fun _ _ => Or.inl).drew.trans (Turn.of_below t8 _)).trans (t9.mono fun _ _ => Or.inr)⟩

set_option maxRecDepth 20000 in
theorem pmark_on (L : Lay) (st : VSt) (j : Nat) (h1 : j < 4) (w : World) (hV : ViewAt w L st) :
    Calls Try.prog 46 #[.pointer (some ⟨L.v, 0, none⟩), .int .i64 j, .bool true] w fun e w' => e = .returned (.tuple #[]) ∧ ViewAt w' L (pMark st j true) ∧ Turn (fun k => k = L.r ∨ k = L.m) w w' := by
  have hz := zero_val
  have lt := hV.lts
  have g1 : (0 : Int) ≤ (j : Int) := by omega
  have g2 : (j : Int) < 4 := by omega
  go_enter Try.func46, Try.ntmps46
  go_wp2_with fail
  refine (ptable_any _).mono ?_; rintro e w1 ⟨rfl, t1⟩
  have hv1 := hV.below t1
  go_wp2_with fail
  refine (vget_any L st 7 0 _ hv1).mono ?_; rintro e w2 ⟨rfl, hv2, t2⟩
  have t2' := (Turn.of_below t1 _).trans t2
  generalize hx : st.get 7 0 = x at *
  clear t1 hv1 t2
  go_upto_region 3 with fail
  obtain ⟨u, hu⟩ : ∃ u, u = x.set 0 (unmarkN (x.n 0) j) := ⟨_, rfl⟩
  rw [← hu]
  have hu0 : u.n 0 = unmarkN (x.n 0) j := by rw [hu, set0_n0]
  have hu1 : ∀ v, u.set 0 v = x.set 0 v := fun v => by rw [hu, set0_set0]
  clear hu
  go_wp2_with fail
  clear hu0 hu1
  generalize hy : x.set 0 (markI (unmarkN (x.n 0) j) j) = y at *
  have b2 : blk (w2.alloc (Obj.cells y.cells 58)) w2.heap.size = some (.cells y.cells 58 (0, 0)) := blk_alloc_at _ _ _ rfl
  have hv3 := hv2.alloc (Obj.cells y.cells 58)
  have t3 := t2'.alloc (Obj.cells y.cells 58)
  clear hv2 t2'
  generalize w2.alloc (Obj.cells y.cells 58) = W2 at *
  generalize w2.heap.size = B at *
  obtain ⟨bd, vd, sd⟩ := at_drew b2 hv3
  go_region_with (first
    | (go_at_call 45; refine (ptable_any _).mono ?_; rintro e w8 ⟨rfl, t8⟩; have b8 := blk_below t8 bd sd; have v8 := vd.below t8; have r8 := t8.size)
    | (go_at_call 25; refine (vput_any L (st.saw 7 0) 7 0 y _ (by assumption)).mono ?_; rintro e w9 ⟨rfl, hv9, t9⟩))
  all_goals
    clear b2 hv3 bd vd b8 v8
    go_wp2_with fail
    go_end0
    exact ⟨rfl, by unfold pMark; rw [hx, pMarkI_on, hy]; exact hv9, ((t3.mono fun _ _ => Or.inl).drew.trans (Turn.of_below t8 _)).trans (t9.mono fun _ _ => Or.inr)⟩

theorem pmark_any (L : Lay) (st : VSt) (j : Nat) (on : Bool) (h1 : j < 4) (w : World) (hV : ViewAt w L st) :
    Calls Try.prog 46 #[.pointer (some ⟨L.v, 0, none⟩), .int .i64 j, .bool on] w fun e w' => e = .returned (.tuple #[]) ∧ ViewAt w' L (pMark st j on) ∧ Turn (fun k => k = L.r ∨ k = L.m) w w' := by
  cases on
  · exact pmark_off L st j h1 w hV
  · exact pmark_on L st j h1 w hV
end Go.Proofs.Ytdlcbclfniahoaa.St
