/- The contract of file.Write of an inode's file, over a view in memory. No condition but those written in each statement. -/
import Derived.Test.YtdlcbclfniahoaaFilC
namespace Go.Proofs.Ytdlcbclfniahoaa.St
open Go.RowKit
set_option linter.unusedVariables false

attribute [local go_sem] blk_alloc_at blk_alloc_past blk_drew blk_drewN blk_setB_same blk_setB_other blk_setRow_other setRow_alloc_at setRow_alloc_past setRow_drewN setRow_drew setB_size setB_cell setB_frozen setB_alloc_past setB_drewN setB_drew run_loadV loadOr_cells run_storeV storeOr_cells cells_size ones_cells cells_0 cells_1 cells_2 cells_3 cells_4 cells_16 cells_g0 cells_g1 cells_g2 cells_g3 cells_g4 cells_g16 cells_set0 cells_set1 cells_set2 cells_set3 cells_set4 cells_text
attribute [local go_sem ↓] execOp_loadV execOp_storeV
attribute [local go_sem ↓] wp_at0 wp_at1 wp_at2 wp_at3 wp_at4 wp_at5 wp_at6 wp_at7
attribute [local go_sem] fOn_fold

/-- What file.Write leaves ahead of the file's own offset; what inode.Write told. -/
def fWs (st : VSt) (f : Int) : VSt := iSaw (iSaw (fGot st f) ((fGet st f).n 2)) ((fGet st f).n 2)
def fWi (st : VSt) (f : Int) (D : ByteArray) : VSt := iWrite (fWs st f) ((fGet st f).n 2) ((fGet st f).n 3) D
def fWn (st : VSt) (f : Int) (D : ByteArray) : Int := iWrote (fWs st f) ((fGet st f).n 2) ((fGet st f).n 3) D
def fWV (st : VSt) (f : Int) (D : ByteArray) : VSt := (fWi st f D).put 6 f (fOn (fGet st f) (fWn st f D))

attribute [local irreducible] Int.lt Int.le
set_option maxRecDepth 100000 in
set_option maxHeartbeats 4000000 in
theorem fwrite_file (L : Lay) (st : VSt) (f : Int) (D : ByteArray) (hh : fHas st f = true) (hm : (bits .and .i64 ((fGet st f).n 4) 2 == 0) = false) (hk : (fGet st f).n 0 = 1) (hi : iHas (fGot st f) ((fGet st f).n 2) = true)
    (ht : ((iVal (iSaw (fGot st f) ((fGet st f).n 2)) ((fGet st f).n 2)).n 0 == 3) = false) (hs : ((iVal (fWs st f) ((fGet st f).n 2)).s.size : Int) ≤ 140737488351232) (hd : (D.size : Int) ≤ 140737488351232)
    (hD : ¬ D.toList = []) (hD2 : ¬ D = ByteArray.empty) (hD3 : D.toList.isEmpty = false) (w : World) (hV : ViewAt w L st) :
    Calls Try.prog 15 #[.pointer (some ⟨L.v, 0, none⟩), .int .i64 f, .string D] w fun e w' =>
      ((0 < fWn st f D ∧ e = .returned (.tuple #[.int .i64 (fWn st f D), .int .i64 0]) ∧ ViewAt w' L (fWV st f D)) ∨ (fWn st f D ≤ 0 ∧ e = .returned (.tuple #[.int .i64 (-1), .int .i64 1]) ∧ ViewAt w' L (fWi st f D))) ∧ Turn (fun k => k = L.r ∨ k = L.m) w w' := by
  have lt := hV.lts
  have hz := zero_val
  have Hr := Lib.hid (fun W hV => iwrite_any L (fWs st f) ((fGet st f).n 2) ((fGet st f).n 3) D hs hd W hV)
  have e1 : iWrote (fWs st f) ((fGet st f).n 2) ((fGet st f).n 3) D = fWn st f D := rfl
  have e2 : iWrite (fWs st f) ((fGet st f).n 2) ((fGet st f).n 3) D = fWi st f D := rfl
  have e4 : fWs st f = iSaw (iSaw (fGot st f) ((fGet st f).n 2)) ((fGet st f).n 2) := rfl
  have e3 : fWV st f D = (fWi st f D).put 6 f (fOn (fGet st f) (fWn st f D)) := rfl
  rw [e1, e2] at Hr
  rw [e4] at Hr
  have E3 := Lib.hid e3
  clear e1 e2 e3 e4 hs
  generalize fWV st f D = FV at *
  generalize fWn st f D = N at *
  generalize fWi st f D = FI at *
  go_enter Try.func15, Try.ntmps15
  go_wp2_with fail
  refine (fget_any L st f w hV).mono ?_; rw [hh]; rintro e w3 ⟨rfl, hv3, t3'⟩
  clear hh hV
  generalize fGet st f = x at *
  generalize fGot st f = s1 at *
  go_upto_region 2 with fail
  have b3 : blk (w3.alloc (Obj.cells x.cells 58)) w3.heap.size = some (.cells x.cells 58 (0, 0)) := blk_alloc_at _ _ _ rfl
  have hv4 := hv3.alloc (Obj.cells x.cells 58)
  have t4 := t3'.alloc (Obj.cells x.cells 58)
  have q3 := t3'.size
  generalize w3.alloc (Obj.cells x.cells 58) = W4 at *
  generalize w3.heap.size = B at *
  clear hv3 t3'
  have c0 := cell_of_row _ _ 0 _ _ _ b3
  have c2 := cell_of_row _ _ 2 _ _ _ b3
  have c4 := cell_of_row _ _ 4 _ _ _ b3
  rw [cells_0, hk] at c0
  rw [cells_2] at c2
  rw [cells_4] at c4
  generalize hwh : x.n 2 = wh at *
  go_wp2_with fail
  refine (iis_any L s1 wh _ hv4).mono ?_; rw [hi]; rintro e w5 ⟨rfl, hv5, t5⟩
  have b5 : blk w5 B = some (.cells x.cells 58 (0, 0)) := blk_of_turn t5 b3 (by omega)
  have t5' := t4.trans t5
  clear c0 c2 c4 b3 hv4 t4 t5 hi
  have c2 := cell_of_row _ _ 2 _ _ _ b5
  rw [cells_2, hwh] at c2
  go_wp2_with fail
  refine (itype_any L (iSaw s1 wh) wh _ hv5).mono ?_; rintro e w6 ⟨rfl, hv6, t6⟩
  have b6 : blk w6 B = some (.cells x.cells 58 (0, 0)) := blk_of_turn t6 b5 (by omega)
  have t6' := t5'.trans t6
  clear c2 b5 hv5 t5' t6
  generalize (iVal (iSaw s1 wh) wh).n 0 = ty at *
  have c2 := cell_of_row _ _ 2 _ _ _ b6
  rw [cells_2, hwh] at c2
  have c3 := cell_of_row _ _ 3 _ _ _ b6
  rw [cells_3] at c3
  go_wp2_with fail
  refine (Hr.out _ hv6).mono ?_; rintro e w7 ⟨rfl, hv7, t7⟩
  have b7 : blk w7 B = some (.cells x.cells 58 (0, 0)) := blk_of_turn t7 b6 (by omega)
  have t7' := (t6'.mono (T := fun k => k = L.r ∨ k = L.m) fun _ _ => Or.inl).trans t7
  clear c2 c3 b6 hv6 t6' t7 Hr
  have c3 := cell_of_row _ _ 3 _ _ _ b7
  rw [cells_3] at c3
  have f3 := frozen_blk b7 3
  rcases (show 0 < N ∨ N < 0 ∨ N = 0 by omega) with hN | hN | rfl
  · have n1 : decide (N < 0) = false := decide_eq_false (by omega)
    have n2 : (N == 0) = false := beq_eq_false_iff_ne.2 (by omega)
    go_upto_region 14 with fail
    have b8 := blk_setCell_same b7 3 (Value.int IntKind.i64 (wrap64 (x.n 3 + N)))
    rw [cells_set3, fOn_fold] at b8
    have tl : Turn (fun k => w.heap.size ≤ k) w7 (w7.setCell ⟨B, 3, none⟩ (Value.int IntKind.i64 (wrap64 (x.n 3 + N)))) := (Turn.refl _ _).setCell (Or.inl (show w.heap.size ≤ B by omega)) _
    have hv8 := hv7.off tl lt
    have t8 := t7'.offS tl (Nat.le_refl _)
    generalize w7.setCell ⟨B, 3, none⟩ (Value.int IntKind.i64 (wrap64 (x.n 3 + N))) = W8 at *
    clear b7 hv7 t7' c3 f3 tl
    obtain ⟨bd, vd, sd⟩ := at_drew b8 hv8
    generalize hy : fOn x N = y at *
    go_region_with (first
      | (go_at_call 35; refine (fkey_any f _).mono ?_; rintro e w9 ⟨rfl, t9⟩; have b9 := blk_below t9 bd sd; have v9 := vd.below t9; have r9 := t9.size)
      | (go_at_call 25; refine (vput_any L FI 6 f y _ (by assumption)).mono ?_; rintro e wa ⟨rfl, hva, ta⟩))
    all_goals
      clear b8 hv8 bd vd b9 v9
      go_wp2_with fail
      go_ret2
      exact ⟨.inl ⟨hN, rfl, by rw [E3.out]; exact hva⟩, (t8.drew.trans (Turn.of_below t9 _)).trans (ta.mono fun _ _ => Or.inr)⟩
  · have n1 : decide (N < 0) = true := decide_eq_true hN
    go_wp2_with fail
    go_ret2
    exact ⟨.inr ⟨by omega, rfl, hv7⟩, t7'⟩
  · go_wp2_with fail
    go_ret2
    exact ⟨.inr ⟨by omega, rfl, hv7⟩, t7'⟩
end Go.Proofs.Ytdlcbclfniahoaa.St
