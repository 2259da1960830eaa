/- The contracts of Two.Look, Same, Stores, Put over both stores with their views. No condition but those written in each statement. -/
import Derived.Test.YtfcgkjbifnhjjaaGreatDoorQ60
import Derived.Deep.CutRange
namespace Go.Proofs.YtfcgkjbifnhjjaaGreatDoor.St
open Go.RowKit
set_option linter.unusedVariables false
attribute [local go_sem] blk_alloc_at blk_alloc_past blk_drew blk_drewN blk_setB_same blk_setB_other blk_setRow_other setRow_alloc_at setRow_alloc_past setRow_drewN setRow_drew setB_size setB_cell setB_frozen setB_alloc_past setB_drewN setB_drew run_loadV loadOr_cells run_storeV storeOr_cells cells_size ones_cells
attribute [local go_sem ↓] execOp_loadV execOp_storeV execOp_loadW execOp_storeW
attribute [local irreducible] Int.lt Int.le
abbrev zW : Array Value := #[.int .i64 0, .int .i64 0, .int .i64 0, .int .i64 0, .int .i64 0, .int .i64 0, .int .i64 0, .int .i64 0, .int .i64 0, .int .i64 0, .int .i64 0, .int .i64 0, .int .i64 0, .int .i64 0, .int .i64 0, .int .i64 0, .int .i64 0, .int .i64 0, .string ⟨#[]⟩]
/-- The cells of the two that a region reads. -/
abbrev TC (t : Nat) (x0 x1 x2 x3 : Nat) (W : World) : Prop := W.cell? ⟨t, 0, none⟩ = some (.pointer (some ⟨x0, 0, none⟩)) ∧ W.cell? ⟨t, 1, none⟩ = some (.pointer (some ⟨x1, 0, none⟩)) ∧ W.cell? ⟨t, 2, none⟩ = some (.pointer (some ⟨x2, 0, none⟩)) ∧ W.cell? ⟨t, 3, none⟩ = some (.pointer (some ⟨x3, 0, none⟩))
section
variable {w : World} {t : Nat} {L : Lay} {R : RLay} {a b : VSt} {W W' : World}
theorem Dbl.tc (h : Dbl w t L R a b W) : TC t L.s L.v R.d R.q W := ⟨h.cs, h.cv, h.cd, h.cq⟩
set_option maxRecDepth 100000 in
set_option maxHeartbeats 1000000 in
/-- Two.Same, where the views are in one state. -/
theorem dsame_any (H : Dbl w t L R a a W) (ok : VOk a) : Calls Tryz.prog 14 #[.pointer (some ⟨t, 0, none⟩)] W fun e W' => e = .returned (.bool true) ∧ Below W.heap.size W W' := by
  go_enter Tryz.func14, Tryz.ntmps14
  go_upto_region 1 with fail
  have t0 : Below W.heap.size W W.drew := below_drewN (Below.refl _ W) 1
  have H0 := H.below t0
  have B0 := t0
  refine wp_region_held_drew (S := TC t L.s L.v R.d R.q) (by kernel_rfl) H0.tc (fun hHeld => ?_)
  clear t0 H
  refine reg_take (i := 0) (v := ?_) rfl rfl (by kernel_rfl) (by kernel_rfl) (by kernel_rfl) (fun _ _ _ h => h) (by assumption) (by rfl) ?_ ?_
  rotate_left 1
  · (intro w hSw; (try dsimp only at hSw); go_simp; try with_reducible rfl)
  try simp only [List.setIfInBounds_toArray, List.set_cons_zero, List.set_cons_succ]
  refine reg_take (i := 1) (v := ?_) rfl rfl (by kernel_rfl) (by kernel_rfl) (by kernel_rfl) (fun _ _ _ h => h) (by assumption) (by rfl) ?_ ?_
  rotate_left 1
  · (intro w hSw; (try dsimp only at hSw); go_simp; try with_reducible rfl)
  try simp only [List.setIfInBounds_toArray, List.set_cons_zero, List.set_cons_succ]
  refine reg_take (i := 2) (v := ?_) rfl rfl (by kernel_rfl) (by kernel_rfl) (by kernel_rfl) (fun _ _ _ h => h) (by assumption) (by rfl) ?_ ?_
  rotate_left 1
  · (intro w hSw; (try dsimp only at hSw); go_simp; try with_reducible rfl)
  try simp only [List.setIfInBounds_toArray, List.set_cons_zero, List.set_cons_succ]
  refine reg_take (i := 3) (v := ?_) rfl rfl (by kernel_rfl) (by kernel_rfl) (by kernel_rfl) (fun _ _ _ h => h) (by assumption) (by rfl) ?_ ?_
  rotate_left 1
  · (intro w hSw; (try dsimp only at hSw); go_simp; try with_reducible rfl)
  try simp only [List.setIfInBounds_toArray, List.set_cons_zero, List.set_cons_succ]
  refine reg_take (i := 5) (v := ?_) rfl rfl (by kernel_rfl) (by kernel_rfl) (by kernel_rfl) (fun _ _ _ h => h) (by assumption) (by rfl) ?_ ?_
  rotate_left 1
  · (intro w hSw; (try dsimp only at hSw); go_simp; try with_reducible rfl)
  try simp only [List.setIfInBounds_toArray, List.set_cons_zero, List.set_cons_succ]
  refine reg_take (i := 6) (v := ?_) rfl rfl (by kernel_rfl) (by kernel_rfl) (by kernel_rfl) (fun _ _ _ h => h) (by assumption) (by rfl) ?_ ?_
  rotate_left 1
  · (intro w hSw; (try dsimp only at hSw); go_simp; try with_reducible rfl)
  try simp only [List.setIfInBounds_toArray, List.set_cons_zero, List.set_cons_succ]
  refine reg_take (i := 7) (v := ?_) rfl rfl (by kernel_rfl) (by kernel_rfl) (by kernel_rfl) (fun _ _ _ h => h) (by assumption) (by rfl) ?_ ?_
  rotate_left 1
  · (intro w hSw; (try dsimp only at hSw); go_simp; try with_reducible rfl)
  try simp only [List.setIfInBounds_toArray, List.set_cons_zero, List.set_cons_succ]
  refine reg_take (i := 8) (v := ?_) rfl rfl (by kernel_rfl) (by kernel_rfl) (by kernel_rfl) (fun _ _ _ h => h) (by assumption) (by rfl) ?_ ?_
  rotate_left 1
  · (intro w hSw; (try dsimp only at hSw); go_simp; try with_reducible rfl)
  try simp only [List.setIfInBounds_toArray, List.set_cons_zero, List.set_cons_succ]
  refine reg_step (i := 4) (by kernel_rfl) rfl (by rfl) (fun KC hKC => ?_)
  go_simp
  refine (vreads_any L a _ H0.p.v ok).mono ?_; rintro e w3 ⟨v3, rfl, hkl, t3⟩
  have H3 := H0.below t3
  have B3 := B0.trans (t3.mono B0.size)
  obtain ⟨a3, c3, rfl, hk3, _, _⟩ := hkl.kr
  clear H0 t3 hHeld hkl B0
  refine hKC.out _ _ ?_ (fun hHeld => ?_)
  · exact H3.tc
  clear hKC KC
  refine reg_step (i := 9) (by kernel_rfl) rfl (by rfl) (fun KC hKC => ?_)
  go_simp
  refine (rvreads_any R a _ H3.p.r ok).mono ?_; rintro e w4 ⟨v4, rfl, hkl, t4⟩
  have H4 := H3.below t4
  have hk34 := hk3.below t4
  have B4 := B3.trans (t4.mono B3.size)
  obtain ⟨a4, c4, rfl, hk4, _, _⟩ := hkl.kr
  clear H3 t4 hHeld hkl hk3 B3
  refine hKC.out _ _ ?_ (fun hHeld => ?_)
  · exact H4.tc
  clear hKC KC
  refine reg_step (i := 10) (by kernel_rfl) rfl (by rfl) (fun KC hKC => ?_)
  go_simp
  refine (same_yes a3 a4 (rdP a).length c3 c4 w4 (by have := rd_len a; omega) (same_kr hk34 hk4)).mono ?_; rintro e w5 ⟨rfl, t5⟩
  have H5 := H4.below t5
  have B5 := B4.trans (t5.mono B4.size)
  clear H4 t5 hHeld hk34 hk4 B4
  refine hKC.out _ _ ?_ (fun hHeld => ?_)
  · exact H5.tc
  clear hKC KC
  refine reg_take (i := 11) (v := ?_) rfl rfl (by kernel_rfl) (by kernel_rfl) (by kernel_rfl) (fun _ _ _ h => h) (by assumption) (by rfl) ?_ ?_
  rotate_left 1
  · (intro w hSw; (try dsimp only at hSw); go_simp; try with_reducible rfl)
  try simp only [List.setIfInBounds_toArray, List.set_cons_zero, List.set_cons_succ]
  refine reg_take (i := 12) (v := ?_) rfl rfl (by kernel_rfl) (by kernel_rfl) (by kernel_rfl) (fun _ _ _ h => h) (by assumption) (by rfl) ?_ ?_
  rotate_left 1
  · (intro w hSw; (try dsimp only at hSw); go_simp; try with_reducible rfl)
  try simp only [List.setIfInBounds_toArray, List.set_cons_zero, List.set_cons_succ]
  refine reg_take (i := 13) (v := ?_) rfl rfl (by kernel_rfl) (by kernel_rfl) (by kernel_rfl) (fun _ _ _ h => h) (by assumption) (by rfl) ?_ ?_
  rotate_left 1
  · (intro w hSw; (try dsimp only at hSw); go_simp; try with_reducible rfl)
  try simp only [List.setIfInBounds_toArray, List.set_cons_zero, List.set_cons_succ]
  refine reg_take (i := 14) (v := ?_) rfl rfl (by kernel_rfl) (by kernel_rfl) (by kernel_rfl) (fun _ _ _ h => h) (by assumption) (by rfl) ?_ ?_
  rotate_left 1
  · (intro w hSw; (try dsimp only at hSw); go_simp; try with_reducible rfl)
  try simp only [List.setIfInBounds_toArray, List.set_cons_zero, List.set_cons_succ]
  refine reg_take (i := 15) (v := ?_) rfl rfl (by kernel_rfl) (by kernel_rfl) (by kernel_rfl) (fun _ _ _ h => h) (by assumption) (by rfl) ?_ ?_
  rotate_left 1
  · (intro w hSw; (try dsimp only at hSw); go_simp; try with_reducible rfl)
  try simp only [List.setIfInBounds_toArray, List.set_cons_zero, List.set_cons_succ]
  refine reg_take (i := 17) (v := ?_) rfl rfl (by kernel_rfl) (by kernel_rfl) (by kernel_rfl) (fun _ _ _ h => h) (by assumption) (by rfl) ?_ ?_
  rotate_left 1
  · (intro w hSw; (try dsimp only at hSw); go_simp; try with_reducible rfl)
  try simp only [List.setIfInBounds_toArray, List.set_cons_zero, List.set_cons_succ]
  refine reg_take (i := 18) (v := ?_) rfl rfl (by kernel_rfl) (by kernel_rfl) (by kernel_rfl) (fun _ _ _ h => h) (by assumption) (by rfl) ?_ ?_
  rotate_left 1
  · (intro w hSw; (try dsimp only at hSw); go_simp; try with_reducible rfl)
  try simp only [List.setIfInBounds_toArray, List.set_cons_zero, List.set_cons_succ]
  refine reg_take (i := 19) (v := ?_) rfl rfl (by kernel_rfl) (by kernel_rfl) (by kernel_rfl) (fun _ _ _ h => h) (by assumption) (by rfl) ?_ ?_
  rotate_left 1
  · (intro w hSw; (try dsimp only at hSw); go_simp; try with_reducible rfl)
  try simp only [List.setIfInBounds_toArray, List.set_cons_zero, List.set_cons_succ]
  refine reg_take (i := 20) (v := ?_) rfl rfl (by kernel_rfl) (by kernel_rfl) (by kernel_rfl) (fun _ _ _ h => h) (by assumption) (by rfl) ?_ ?_
  rotate_left 1
  · (intro w hSw; (try dsimp only at hSw); go_simp; try with_reducible rfl)
  try simp only [List.setIfInBounds_toArray, List.set_cons_zero, List.set_cons_succ]
  refine reg_step (i := 16) (by kernel_rfl) rfl (by rfl) (fun KC hKC => ?_)
  go_simp
  refine (vredo_any L a _ H5.p.v ok).mono ?_; rintro e w9 ⟨v9, rfl, hwl, t9⟩
  have H9 := H5.below t9
  have B9 := B5.trans (t9.mono B5.size)
  obtain ⟨a9, c9, rfl, _, hw9⟩ := hwl.form
  clear H5 t9 hHeld hwl B5
  refine hKC.out _ _ ?_ (fun hHeld => ?_)
  · exact H9.tc
  clear hKC KC
  refine reg_step (i := 21) (by kernel_rfl) rfl (by rfl) (fun KC hKC => ?_)
  go_simp
  refine (rvredo_any R a _ H9.p.r).mono ?_; rintro e w10 ⟨v10, rfl, hwl, t10⟩
  have H10 := H9.below t10
  have hw910 := hw9.below t10
  have B10 := B9.trans (t10.mono B9.size)
  obtain ⟨a10, c10, rfl, _, hw10⟩ := hwl.form
  clear H9 t10 hHeld hwl hw9 B9
  refine hKC.out _ _ ?_ (fun hHeld => ?_)
  · exact H10.tc
  clear hKC KC
  refine reg_step (i := 22) (by kernel_rfl) rfl (by rfl) (fun KC hKC => ?_)
  go_simp
  refine (same_wr a9 a10 c9 c10 (wrL a) w10 (by have := wrL_le a; omega) hw910 hw10).mono ?_; rintro e w11 ⟨rfl, t11⟩
  have H11 := H10.below t11
  have B11 := B10.trans (t11.mono B10.size)
  clear H10 t11 hHeld hw910 hw10 B10
  refine hKC.out _ _ ?_ (fun hHeld => ?_)
  · exact H11.tc
  clear hKC KC
  refine reg_take (i := 23) (v := ?_) rfl rfl (by kernel_rfl) (by kernel_rfl) (by kernel_rfl) (fun _ _ _ h => h) (by assumption) (by rfl) ?_ ?_
  rotate_left 1
  · (intro w hSw; (try dsimp only at hSw); go_simp; try with_reducible rfl)
  try simp only [List.setIfInBounds_toArray, List.set_cons_zero, List.set_cons_succ]
  refine reg_take (i := 24) (v := ?_) rfl rfl (by kernel_rfl) (by kernel_rfl) (by kernel_rfl) (fun _ _ _ h => h) (by assumption) (by rfl) ?_ ?_
  rotate_left 1
  · (intro w hSw; (try dsimp only at hSw); go_simp; try with_reducible rfl)
  try simp only [List.setIfInBounds_toArray, List.set_cons_zero, List.set_cons_succ]
  refine wpAnyH_done (by kernel_rfl) ?_ _
  clear hHeld
  go_wp2_with fail
  go_ret
  exact ⟨rfl, B11⟩
set_option maxRecDepth 100000 in
set_option maxHeartbeats 1000000 in
/-- Two.Stores, where both stores are in one state. -/
theorem dstores_any (H : Dbl w t L R a b W) (hb : a.base = b.base) : Calls Tryz.prog 15 #[.pointer (some ⟨t, 0, none⟩)] W fun e W' => e = .returned (.bool true) ∧ Below W.heap.size W W' := by
  have hS := H.p.v.sa
  have hR := H.p.r.sa
  have c0 := H.cs
  have c2 := H.cd
  have ht := blk_lt H.tw
  rw [← hb] at hR
  clear H
  generalize L.s = s at *
  generalize L.l = l at *
  generalize R.d = d at *
  generalize R.s = r at *
  generalize a.base = base at *
  clear hb
  go_enter Tryz.func15, Tryz.ntmps15
  go_wp2_with fail
  go_loopw [3] (fun i wr => ∃ j : Nat, j ≤ 55 ∧ i = .int .i64 (j : Int) ∧ Below W.heap.size W wr) (fun i _ => 55 - (intOf i).toNat)
  case atStart => exact ⟨0, by omega, rfl, Below.refl _ _⟩
  case round =>
    obtain ⟨j, hj, rfl, B0⟩ := hrel
    have j0 : (0 : Int) ≤ (j : Int) := by omega
    go_wp2_with fail
    refine (rall_any _).mono ?_; rintro e w3 ⟨rfl, t3⟩
    have B3 := B0.trans (t3.mono B0.size)
    clear B0 t3
    by_cases hlt : j < 55
    · have l1 : (j : Int) < 55 := by omega
      have hk := (place_range (keyP (j : Int)).1 (keyP (j : Int)).2 (by rw [place_keyP j hlt]; omega)).2.2.2.1
      have hat := fun W => rat_any (j : Int) (by omega) (by omega) W
      rw [show atV (j : Int) = .agg #[.int .i64 (keyP j).1, .int .i64 (keyP j).2] from rfl] at hat
      have HAT := Lib.hid hat
      clear hat
      generalize (keyP j).1 = A at *
      generalize (keyP j).2 = C at *
      generalize (atK (j : Int)).isSome = D at *
      go_wp2_with fail
      refine (HAT.out _).mono ?_; rintro e w4 ⟨rfl, t4⟩
      have B4 := B3.trans (t4.mono B3.size)
      clear B3 t4 HAT
      go_upto_region 5 with fail
      have b5 : Below w4.heap.size w4 (w4.alloc (.cells #[.int .i64 A, .int .i64 C] 57)) := (Below.refl _ _).alloc (Nat.le_refl _) _
      have k0 : K2 w4.heap.size A C (w4.alloc (.cells #[.int .i64 A, .int .i64 C] 57)) := ⟨cell_of_row _ _ 0 _ _ _ (heap_alloc_new _ _), cell_of_row _ _ 1 _ _ _ (heap_alloc_new _ _)⟩
      have B5 := B4.trans (b5.mono B4.size)
      clear B4 b5
      generalize w4.alloc (.cells #[.int .i64 A, .int .i64 C] 57) = W5 at *
      generalize w4.heap.size = K at *
      have b6 : Below W5.heap.size W5 W5.drew := below_drewN (Below.refl _ W5) 1
      have B6 := B5.trans (b6.mono B5.size)
      have S0 : (fun W' => K2 K A C W' ∧ Below W.heap.size W W' ∧ W'.cell? ⟨t, 0, none⟩ = some (.pointer (some ⟨s, 0, none⟩)) ∧ W'.cell? ⟨t, 2, none⟩ = some (.pointer (some ⟨d, 0, none⟩))) W5.drew := ⟨cells_two k0 b6, B6, (B6.cell ht).trans c0, (B6.cell ht).trans c2⟩
      clear b6 k0 B6 B5
      refine wp_region_held_drew (S := fun W' => K2 K A C W' ∧ Below W.heap.size W W' ∧ W'.cell? ⟨t, 0, none⟩ = some (.pointer (some ⟨s, 0, none⟩)) ∧ W'.cell? ⟨t, 2, none⟩ = some (.pointer (some ⟨d, 0, none⟩))) (by kernel_rfl) S0 (fun hHeld => ?_)
      clear S0
      refine reg_take (i := 0) (v := ?_) rfl rfl (by kernel_rfl) (by kernel_rfl) (by kernel_rfl) (fun _ _ _ h => h) (by assumption) (by rfl) ?_ ?_
      rotate_left 1
      · (intro w hSw; (try dsimp only at hSw); go_simp; try with_reducible rfl)
      try simp only [List.setIfInBounds_toArray, List.set_cons_zero, List.set_cons_succ]
      refine reg_take (i := 1) (v := ?_) rfl rfl (by kernel_rfl) (by kernel_rfl) (by kernel_rfl) (fun _ _ _ h => h) (by assumption) (by rfl) ?_ ?_
      rotate_left 1
      · (intro w hSw; (try dsimp only at hSw); go_simp; try with_reducible rfl)
      try simp only [List.setIfInBounds_toArray, List.set_cons_zero, List.set_cons_succ]
      refine reg_take (i := 2) (v := ?_) rfl rfl (by kernel_rfl) (by kernel_rfl) (by kernel_rfl) (fun _ _ _ h => h) (by assumption) (by rfl) ?_ ?_
      rotate_left 1
      · (intro w hSw; (try dsimp only at hSw); go_simp; try with_reducible rfl)
      try simp only [List.setIfInBounds_toArray, List.set_cons_zero, List.set_cons_succ]
      refine reg_take (i := 3) (v := ?_) rfl rfl (by kernel_rfl) (by kernel_rfl) (by kernel_rfl) (fun _ _ _ h => h) (by assumption) (by rfl) ?_ ?_
      rotate_left 1
      · (intro w hSw; (try dsimp only at hSw); go_simp; try with_reducible rfl)
      try simp only [List.setIfInBounds_toArray, List.set_cons_zero, List.set_cons_succ]
      refine reg_take (i := 4) (v := ?_) rfl rfl (by kernel_rfl) (by kernel_rfl) (by kernel_rfl) (fun _ _ _ h => h) (by assumption) (by rfl) ?_ ?_
      rotate_left 1
      · (intro w hSw; (try dsimp only at hSw); go_simp; try with_reducible rfl)
      try simp only [List.setIfInBounds_toArray, List.set_cons_zero, List.set_cons_succ]
      refine reg_take (i := 6) (v := ?_) rfl rfl (by kernel_rfl) (by kernel_rfl) (by kernel_rfl) (fun _ _ _ h => h) (by assumption) (by rfl) ?_ ?_
      rotate_left 1
      · (intro w hSw; (try dsimp only at hSw); go_simp; try with_reducible rfl)
      try simp only [List.setIfInBounds_toArray, List.set_cons_zero, List.set_cons_succ]
      refine reg_take (i := 7) (v := ?_) rfl rfl (by kernel_rfl) (by kernel_rfl) (by kernel_rfl) (fun _ _ _ h => h) (by assumption) (by rfl) ?_ ?_
      rotate_left 1
      · (intro w hSw; (try dsimp only at hSw); go_simp; try with_reducible rfl)
      try simp only [List.setIfInBounds_toArray, List.set_cons_zero, List.set_cons_succ]
      refine reg_take (i := 8) (v := ?_) rfl rfl (by kernel_rfl) (by kernel_rfl) (by kernel_rfl) (fun _ _ _ h => h) (by assumption) (by rfl) ?_ ?_
      rotate_left 1
      · (intro w hSw; (try dsimp only at hSw); go_simp; try with_reducible rfl)
      try simp only [List.setIfInBounds_toArray, List.set_cons_zero, List.set_cons_succ]
      refine reg_take (i := 9) (v := ?_) rfl rfl (by kernel_rfl) (by kernel_rfl) (by kernel_rfl) (fun _ _ _ h => h) (by assumption) (by rfl) ?_ ?_
      rotate_left 1
      · (intro w hSw; (try dsimp only at hSw); go_simp; try with_reducible rfl)
      try simp only [List.setIfInBounds_toArray, List.set_cons_zero, List.set_cons_succ]
      refine reg_take (i := 10) (v := ?_) rfl rfl (by kernel_rfl) (by kernel_rfl) (by kernel_rfl) (fun _ _ _ h => h) (by assumption) (by rfl) ?_ ?_
      rotate_left 1
      · (intro w hSw; (try dsimp only at hSw); go_simp; try with_reducible rfl)
      try simp only [List.setIfInBounds_toArray, List.set_cons_zero, List.set_cons_succ]
      refine reg_step (i := 5) (by kernel_rfl) rfl (by rfl) (fun KC hKC => ?_)
      go_simp
      refine (sget_any s l _ A C _ (hS.keep (Turn.of_below hHeld.2.1 (fun _ => False)) id id)).mono ?_; rintro e w7 ⟨rfl, t7⟩
      have s7 : (fun W' => K2 K A C W' ∧ Below W.heap.size W W' ∧ W'.cell? ⟨t, 0, none⟩ = some (.pointer (some ⟨s, 0, none⟩)) ∧ W'.cell? ⟨t, 2, none⟩ = some (.pointer (some ⟨d, 0, none⟩))) w7 := ⟨cells_two hHeld.1 t7, hHeld.2.1.trans (t7.mono hHeld.2.1.size), (t7.cell (cell_block_lt hHeld.2.2.1)).trans hHeld.2.2.1, (t7.cell (cell_block_lt hHeld.2.2.2)).trans hHeld.2.2.2⟩
      clear t7 hHeld
      refine hKC.out _ _ ?_ (fun hHeld => ?_)
      · exact s7
      clear hKC KC s7
      refine reg_step (i := 11) (by kernel_rfl) rfl (by rfl) (fun KC hKC => ?_)
      go_simp
      refine (rget_any d r _ A C (by omega) _ (hR.keep (Turn.of_below hHeld.2.1 (fun _ => False)) id id)).mono ?_; rintro e w8 ⟨rfl, t8⟩
      have s8 : (fun W' => K2 K A C W' ∧ Below W.heap.size W W' ∧ W'.cell? ⟨t, 0, none⟩ = some (.pointer (some ⟨s, 0, none⟩)) ∧ W'.cell? ⟨t, 2, none⟩ = some (.pointer (some ⟨d, 0, none⟩))) w8 := ⟨cells_two hHeld.1 t8, hHeld.2.1.trans (t8.mono hHeld.2.1.size), (t8.cell (cell_block_lt hHeld.2.2.1)).trans hHeld.2.2.1, (t8.cell (cell_block_lt hHeld.2.2.2)).trans hHeld.2.2.2⟩
      clear t8 hHeld
      refine hKC.out _ _ ?_ (fun hHeld => ?_)
      · exact s8
      clear hKC KC
      have hne := neqV_run (storeLook base A C)
      refine reg_take (i := 12) (v := .bool false) rfl rfl (by kernel_rfl) (by kernel_rfl) (by kernel_rfl) (fun _ _ _ h => h) (by assumption) (by rfl) (fun w hS => run_neq_op rfl rfl (by kernel_rfl) (hne w)) ?_
      try simp only [List.setIfInBounds_toArray, List.set_cons_zero, List.set_cons_succ]
      refine wpAnyH_done (by kernel_rfl) ?_ _
      have B8 := s8.2.1
      clear hHeld s8 hne
      go_wp2_with fail
      exact ⟨⟨j + 1, by omega, by go_num, B8⟩, by simp [intOf]; omega⟩
    · have l1 : ¬ (j : Int) < 55 := by omega
      go_wp2_with fail
      go_ret
      exact ⟨rfl, B3⟩
end
set_option maxRecDepth 100000 in
set_option maxHeartbeats 4000000 in
/-- Two.Look: new views of the stores. -/
theorem dlook_any (w : World) (t s l d r : Nat) (v0 q0 : Value) (base base2 : Nat → Val) (W : World) (hS : StoreAt W s l base) (hR : RStoreAt W d r base2) (hT : blk W t = some (.cells #[.pointer (some ⟨s, 0, none⟩), v0, .pointer (some ⟨d, 0, none⟩), q0] 34 (0, 0)))
    (hb : Below w.heap.size w W) (tz : w.heap.size ≤ t) (lo : w.heap.size ≤ l ∧ w.heap.size ≤ r) (hsl : s ≠ l) (hdl : d ≠ l) (hrs : r ≠ s) :
    Calls Tryz.prog 19 #[.pointer (some ⟨t, 0, none⟩)] W fun e W' => e = .returned (.tuple #[]) ∧ ∃ L R, L.s = s ∧ L.l = l ∧ R.d = d ∧ R.s = r ∧ Dbl w t L R (VSt.fresh base) (VSt.fresh base2) W' ∧ Turn (· = t) W W' := by
  have c0 := cell_of_row W t 0 _ _ _ hT
  have c2 := cell_of_row W t 2 _ _ _ hT
  simp at c0 c2
  have lt := blk_lt hT
  have hTd : blk W.drew t = _ := (blk_drew W t).trans hT
  have hSd : StoreAt W.drew s l base := hS.keep (S := fun _ => False) (Turn.refl _ _).drew (fun q => q) (fun q => q)
  have hRd : RStoreAt W.drew d r base2 := hR.keep (S := fun _ => False) (Turn.refl _ _).drew (fun q => q) (fun q => q)
  have ltd : t < W.drew.heap.size := lt
  have hlr : l ≠ r := by
    obtain ⟨_, q1, _⟩ := hS.cl
    obtain ⟨_, _, _, q2, _⟩ := hR.cm
    exact cells_ne_map q1 q2
  have hll : l < W.drew.heap.size := by obtain ⟨_, q1, _⟩ := hSd.cl; exact lt_of_heap q1
  have hsd : s < W.drew.heap.size := hSd.lts
  have hdd : d < W.drew.heap.size := lt_of_heap hRd.cd
  have hrd : r < W.drew.heap.size := by obtain ⟨_, _, _, q2, _⟩ := hRd.cm; exact lt_of_heap q2
  have htl : t ≠ l := by
    obtain ⟨_, q1, _⟩ := hS.cl
    intro e
    subst e
    unfold blk at hT
    rw [q1] at hT
    injection hT with hT
    injection hT with _ hT
    cases hT
  have hts : t ≠ s := by
    obtain ⟨_, _, q1⟩ := hS.cs
    intro e
    subst e
    unfold blk at hT
    rw [q1] at hT
    injection hT with hT
    injection hT with _ hT
    cases hT
  have htd : t ≠ d := by
    have q1 := hR.cd
    intro e
    subst e
    rw [q1] at hT
    injection hT with hT
    injection hT with _ hT
    cases hT
  have htr : t ≠ r := by
    obtain ⟨_, _, _, q2, _⟩ := hR.cm
    exact cells_ne_map hT q2
  go_enter Tryz.func19, Tryz.ntmps19
  go_wp2_with fail
  go_region_with (first
    | (go_at_call 60; refine (look_any s l base _ hSd).mono ?_; rintro e w1 ⟨L, rfl, rfl, rfl, hv1, t1, gv, gr, gm⟩; have hT1 := blk_below t1 hTd ltd; have lt1 := blk_lt hT1; have hR1 := hRd.below t1; have d0 := cell_of_row w1 t 0 _ _ _ hT1; have d1 := cell_of_row w1 t 1 _ _ _ hT1; have d2 := cell_of_row w1 t 2 _ _ _ hT1; have d3 := cell_of_row w1 t 3 _ _ _ hT1; simp at d0 d1 d2 d3)
    | (go_at_call 61; refine (rnewview d r base2 _ hR1).mono ?_; rintro e w2 ⟨R, rfl, rfl, rfl, hq, t2, gq, qr, qm⟩; have hT2 := blk_below t2 hT1 lt1; have hv2 := hv1.below t2; have lt2 := blk_lt hT2; have e0 := cell_of_row w2 t 0 _ _ _ hT2; have e1 := cell_of_row w2 t 1 _ _ _ hT2; have e2 := cell_of_row w2 t 2 _ _ _ hT2; have e3 := cell_of_row w2 t 3 _ _ _ hT2; simp at e0 e1 e2 e3; have f2 := frozen_blk hT2))
  all_goals
    go_wp2_with fail
    go_end0
    have b1 := blk_setCell_same hT2 1 (Value.pointer (some ⟨L.v, 0, none⟩))
    have b2 := blk_setCell_same b1 3 (Value.pointer (some ⟨R.q, 0, none⟩))
    have z1 := t1.size
    have z2 := t2.size
    have z0 : W.drew.heap.size = W.heap.size := rfl
    have z3 := hb.size
    have tt : Turn (· = t) w2 ((w2.setCell ⟨t, 1, none⟩ (Value.pointer (some ⟨L.v, 0, none⟩))).setCell ⟨t, 3, none⟩ (Value.pointer (some ⟨R.q, 0, none⟩))) :=
      ((Turn.refl (· = t) w2).setCell (p := ⟨t, 1, none⟩) (Or.inl (show t = t from rfl)) _).setCell (p := ⟨t, 3, none⟩) (Or.inl (show t = t from rfl)) _
    have tw : Turn (· = t) W w2 := ((Turn.refl _ _).drew.trans (Turn.of_below t1 _)).trans (Turn.of_below t2 _)
    have m1 := hv1.lts
    refine ⟨rfl, L, R, rfl, rfl, rfl, rfl, ⟨⟨hv2.keep tt ?_, hq.keep tt ?_, hb.trans ((tw.trans tt).below (B := w.heap.size) hb.size (fun i (e : i = t) => by omega))⟩, ?_, b2, tz⟩, tw.trans tt⟩
    · rintro i rfl
      exact ⟨by omega, hts, htl, by omega, by omega⟩
    · rintro i rfl
      exact ⟨by omega, htd, htr, by omega, by omega⟩
    · refine ⟨fun i hi => ?_, fun i hi => ?_, ?_, hsl, ?_, ?_⟩ <;> omega
/-- A write kept in a block of the call's own. -/
abbrev WA (K : Nat) (A C : Int) (X : Val) (W : World) : Prop := W.cell? ⟨K, 0, none⟩ = some (.int .i64 A) ∧ W.cell? ⟨K, 1, none⟩ = some (.int .i64 C) ∧ blk W K = some (.cells (wcells A C X) 62 (0, 0))
theorem wa_of {W : World} {K : Nat} {A C : Int} {X : Val} (h : blk W K = some (.cells (wcells A C X) 62 (0, 0))) : WA K A C X W := ⟨cell_of_row W K 0 _ _ _ h, cell_of_row W K 1 _ _ _ h, h⟩
theorem wa_turn {S : Nat → Prop} {W W' : World} {K : Nat} {A C : Int} {X : Val} (h : WA K A C X W) (hT : Turn S W W') (hS : ¬ S K) : WA K A C X W' := wa_of (blk_of_turn hT h.2.2 hS)
theorem Dbl.store {w W W' : World} {t : Nat} {L : Lay} {R : RLay} {a b : VSt} {base : Nat → Val} (h : Dbl w t L R a b W) (hS : StoreAt W' L.s L.l base) (T : Turn (· = L.l) W W') : Dbl w t L R { a with base := base } b W' :=
  ⟨h.p.store h.f base hS T, h.f, blk_of_turn T h.tw h.far.1, h.tz⟩
theorem Dbl.rstore {w W W' : World} {t : Nat} {L : Lay} {R : RLay} {a b : VSt} {base : Nat → Val} (h : Dbl w t L R a b W) (hS : RStoreAt W' R.d R.s base) (T : Turn (· = R.s) W W') : Dbl w t L R a { b with base := base } W' :=
  ⟨h.p.rstore h.f base hS T, h.f, blk_of_turn T h.tw h.far.2.2.2.1, h.tz⟩
set_option maxRecDepth 100000 in
set_option maxHeartbeats 4000000 in
/-- Two.Put: what was written goes into the stores; new views. -/
theorem dput_any (w : World) (t : Nat) (L : Lay) (R : RLay) (a : VSt) (W : World) (H : Dbl w t L R a a W) (ok : VOk a) :
    Calls Tryz.prog 13 #[.pointer (some ⟨t, 0, none⟩)] W fun e W' => e = .returned (.tuple #[]) ∧ ∃ L' R', Dbl w t L' R' (VSt.fresh (putAll a.base (wrL a))) (VSt.fresh (putAll a.base (wrL a))) W' ∧ Turn (fun i => i = t ∨ i = L.l ∨ i = R.s) W W' := by
  have F := H.f
  have c1 := H.cv
  have hlen := wrL_le a
  have HPA := Lib.hid (putAll_step a.base (wrL a))
  have HKY := Lib.hid (wrL_key a)
  go_enter Tryz.func13, Tryz.ntmps13
  go_wp2_with fail
  refine (vredo_any L a _ H.p.v ok).mono ?_; rintro e w2 ⟨v2, rfl, hwl, t2⟩
  have H5 := H.below t2
  have T5 : Turn (fun i => i = t ∨ i = L.l ∨ i = R.s) W w2 := Turn.of_below t2 _
  have hz5 := t2.size
  have hlt := H.p.v.lts
  have hrt := H.p.r.lts
  obtain ⟨B, hB⟩ : ∃ B, B = W.heap.size := ⟨_, rfl⟩
  rw [← hB] at hwl hz5 hlt hrt
  clear hB
  obtain ⟨a2, c2, rfl, _, _⟩ := hwl.form
  clear t2 c1 H
  go_wp2_with fail
  go_loopw [12] (fun i wr => ∃ m : Nat, m ≤ (wrL a).length ∧ i = .int .i64 (m : Int) ∧ Dbl w t L R { a with base := putAll a.base ((wrL a).take m) } a wr ∧ WL B wr (.slice a2 (wrL a).length c2) (wrL a) ∧ Turn (fun i => i = t ∨ i = L.l ∨ i = R.s) W wr ∧ B ≤ wr.heap.size) (fun i _ => (wrL a).length - (intOf i).toNat)
  case atStart => exact ⟨0, by omega, rfl, H5, hwl, T5, hz5⟩
  case round =>
    clear H5 hwl T5 hz5
    obtain ⟨m, hm, rfl, H2, hwl, T2, hz2⟩ := hrel
    have m0 : (0 : Int) ≤ (m : Int) := by omega
    by_cases hml : m < (wrL a).length
    · have l2 : (m : Int) < ((wrL a).length : Int) := by omega
      obtain ⟨g, cur, rfl, hg, y1, y2⟩ := hwl.get m hml
      have hst := HPA.out m hml
      have hky := HKY.out m hml
      have HST := Lib.hid hst
      clear hst
      generalize (wrL a)[m].1.1 = A at *
      generalize (wrL a)[m].1.2 = C at *
      generalize (wrL a)[m].2 = X at *
      have hlw := run_loadW_mid wr g (m * 19) cur A C X _ _ y1 y2
      have a1 := add_at_g g (m * 19)
      have hsw : (storeW (.pointer (some ⟨wr.heap.size, 0, none⟩)) (.agg (wcells A C X))).run Tryz.prog (wr.alloc (Obj.cells zW 62)) = .ok .skip (wr.alloc (Obj.cells (wcells A C X) 62)) := by
        rw [run_storeW _ _ _ _ _ _ _ (blk_alloc_at wr _ _ rfl) rfl, setRow_alloc_at _ _ _ _ _ rfl]
      go_upto_region 3 with fail
      have bA : Below wr.heap.size wr (wr.alloc (.cells (wcells A C X) 62)) := (Below.refl _ _).alloc (Nat.le_refl _) _
      have kb : blk (wr.alloc (.cells (wcells A C X) 62)) wr.heap.size = some (.cells (wcells A C X) 62 (0, 0)) := heap_alloc_new _ _
      have H3 := H2.below bA
      have hwl3 := hwl.below bA
      have T3 := T2.trans (Turn.of_below bA _)
      have hz3 : B ≤ (wr.alloc (.cells (wcells A C X) 62)).heap.size := by have := bA.size; omega
      clear bA H2 hwl hlw hsw a1 y1 T2 hz2
      generalize wr.alloc (.cells (wcells A C X) 62) = W3 at *
      generalize wr.heap.size = K at *
      have b4 : Below W3.heap.size W3 W3.drew := below_drewN (Below.refl _ W3) 1
      have H4 := H3.below b4
      have hwl4 := hwl3.below b4
      have T4 := T3.trans (Turn.of_below b4 _)
      have kb4 := wa_of ((b4.block K (lt_of_heap kb)).trans kb)
      have hz4 : B ≤ W3.drew.heap.size := hz3
      clear kb b4 H3 hwl3 T3 hz3
      refine wp_region_held_drew (S := fun W => WA K A C X W ∧ TC t L.s L.v R.d R.q W) (by kernel_rfl) ⟨kb4, H4.tc⟩ (fun hHeld => ?_)
      clear kb4
      refine reg_take (i := 0) (v := ?_) rfl rfl (by kernel_rfl) (by kernel_rfl) (by kernel_rfl) (fun _ _ _ h => h) (by assumption) (by rfl) ?_ ?_
      rotate_left 1
      · (intro w hSw; (try dsimp only at hSw); go_simp; try with_reducible rfl)
      try simp only [List.setIfInBounds_toArray, List.set_cons_zero, List.set_cons_succ]
      refine reg_take (i := 1) (v := ?_) rfl rfl (by kernel_rfl) (by kernel_rfl) (by kernel_rfl) (fun _ _ _ h => h) (by assumption) (by rfl) ?_ ?_
      rotate_left 1
      · (intro w hSw; (try dsimp only at hSw); go_simp; try with_reducible rfl)
      try simp only [List.setIfInBounds_toArray, List.set_cons_zero, List.set_cons_succ]
      refine reg_take (i := 2) (v := ?_) rfl rfl (by kernel_rfl) (by kernel_rfl) (by kernel_rfl) (fun _ _ _ h => h) (by assumption) (by rfl) ?_ ?_
      rotate_left 1
      · (intro w hSw; (try dsimp only at hSw); go_simp; try with_reducible rfl)
      try simp only [List.setIfInBounds_toArray, List.set_cons_zero, List.set_cons_succ]
      refine reg_take (i := 3) (v := ?_) rfl rfl (by kernel_rfl) (by kernel_rfl) (by kernel_rfl) (fun _ _ _ h => h) (by assumption) (by rfl) ?_ ?_
      rotate_left 1
      · (intro w hSw; (try dsimp only at hSw); go_simp; try with_reducible rfl)
      try simp only [List.setIfInBounds_toArray, List.set_cons_zero, List.set_cons_succ]
      refine reg_take (i := 4) (v := ?_) rfl rfl (by kernel_rfl) (by kernel_rfl) (by kernel_rfl) (fun _ _ _ h => h) (by assumption) (by rfl) ?_ ?_
      rotate_left 1
      · (intro w hSw; (try dsimp only at hSw); go_simp; try with_reducible rfl)
      try simp only [List.setIfInBounds_toArray, List.set_cons_zero, List.set_cons_succ]
      refine reg_take (i := 5) (v := ?_) rfl rfl (by kernel_rfl) (by kernel_rfl) (by kernel_rfl) (fun _ _ _ h => h) (by assumption) (by rfl) ?_ ?_
      rotate_left 1
      · (intro w hSw; (try dsimp only at hSw); go_simp; try with_reducible rfl)
      try simp only [List.setIfInBounds_toArray, List.set_cons_zero, List.set_cons_succ]
      refine reg_take (i := 6) (v := ?_) rfl rfl (by kernel_rfl) (by kernel_rfl) (by kernel_rfl) (fun _ _ _ h => h) (by assumption) (by rfl) ?_ ?_
      rotate_left 1
      · (intro w hSw; (try dsimp only at hSw); go_simp; try with_reducible rfl)
      try simp only [List.setIfInBounds_toArray, List.set_cons_zero, List.set_cons_succ]
      refine reg_take (i := 7) (v := (.agg X.cells)) rfl rfl (by kernel_rfl) (by kernel_rfl) (by kernel_rfl) (fun _ _ _ h => h) (by assumption) (by rfl) (fun W hW => run_loadV_mid W K 2 _ X _ _ hW.1.2.2 (wcells_ext A C X)) ?_
      try simp only [List.setIfInBounds_toArray, List.set_cons_zero, List.set_cons_succ]
      refine reg_step (i := 8) (by kernel_rfl) rfl (by rfl) (fun KC hKC => ?_)
      go_simp
      refine (sput_any L.s L.l _ A C X F.sl _ H4.p.v.sa).mono ?_; rintro e w4 ⟨rfl, hS4, T5⟩
      have H5 := H4.store hS4 T5
      have kK := wa_turn hHeld.1 T5 (show ¬ K = L.l from by have := H4.p.far hHeld.1.2.2 (by decide); omega)
      have hwl5 := hwl4.turn T5 (fun i hi (e : i = L.l) => by omega)
      have T6 := T4.trans (T5.mono fun i _ (e : i = L.l) => by first | exact Or.inr (Or.inl e) | exact Or.inr (Or.inr e))
      have hz5 := T5.size
      clear H4 hwl4 T4 hS4 T5 hHeld
      refine hKC.out _ _ ?_ (fun hHeld => ?_)
      · exact ⟨kK, H5.tc⟩
      clear hKC KC kK
      refine wpAnyH_done (by kernel_rfl) ?_ _
      clear hHeld
      go_wp2_with fail
      exact ⟨⟨m + 1, by omega, by go_num, by rw [HST.out]; exact H5, hwl5, T6, by omega⟩, by simp [intOf]; omega⟩
    · have l2 : ¬ (m : Int) < ((wrL a).length : Int) := by omega
      obtain rfl : m = (wrL a).length := by omega
      rw [List.take_length] at H2
      clear hwl
      have c3 := H2.cq
      go_wp2_with fail
      refine (rvredo_any R a _ H2.p.r).mono ?_; rintro e w2 ⟨v2, rfl, hwl, t2⟩
      have H5 := H2.below t2
      have T5 := T2.trans (Turn.of_below t2 _)
      have hz5 := t2.size
      have hlt2 := H2.p.v.lts
      have hrt2 := H2.p.r.lts
      obtain ⟨B5, hB5⟩ : ∃ B5, B5 = wr.heap.size := ⟨_, rfl⟩
      rw [← hB5] at hwl hz5 hlt2 hrt2
      clear hB5
      obtain ⟨a3, c5, rfl, _, _⟩ := hwl.form
      clear t2 c3 H2 T2 hz2
      go_wp2_with fail
      go_loopw [32] (fun i wr => ∃ m : Nat, m ≤ (wrL a).length ∧ i = .int .i64 (m : Int) ∧ Dbl w t L R { a with base := putAll a.base (wrL a) } { a with base := putAll a.base ((wrL a).take m) } wr ∧ WL B5 wr (.slice a3 (wrL a).length c5) (wrL a) ∧ Turn (fun i => i = t ∨ i = L.l ∨ i = R.s) W wr ∧ B5 ≤ wr.heap.size) (fun i _ => (wrL a).length - (intOf i).toNat)
      case atStart => exact ⟨0, by omega, rfl, H5, hwl, T5, hz5⟩
      case round =>
        clear H5 hwl T5 hz5
        obtain ⟨m, hm, rfl, H2, hwl, T2, hz2⟩ := hrel
        have m0 : (0 : Int) ≤ (m : Int) := by omega
        by_cases hml : m < (wrL a).length
        · have l2 : (m : Int) < ((wrL a).length : Int) := by omega
          obtain ⟨g, cur, rfl, hg, y1, y2⟩ := hwl.get m hml
          have hst := HPA.out m hml
          have hky := HKY.out m hml
          have HST := Lib.hid hst
          clear hst
          generalize (wrL a)[m].1.1 = A at *
          generalize (wrL a)[m].1.2 = C at *
          generalize (wrL a)[m].2 = X at *
          have hlw := run_loadW_mid wr g (m * 19) cur A C X _ _ y1 y2
          have a1 := add_at_g g (m * 19)
          have hsw : (storeW (.pointer (some ⟨wr.heap.size, 0, none⟩)) (.agg (wcells A C X))).run Tryz.prog (wr.alloc (Obj.cells zW 62)) = .ok .skip (wr.alloc (Obj.cells (wcells A C X) 62)) := by
            rw [run_storeW _ _ _ _ _ _ _ (blk_alloc_at wr _ _ rfl) rfl, setRow_alloc_at _ _ _ _ _ rfl]
          go_upto_region 8 with fail
          have bA : Below wr.heap.size wr (wr.alloc (.cells (wcells A C X) 62)) := (Below.refl _ _).alloc (Nat.le_refl _) _
          have kb : blk (wr.alloc (.cells (wcells A C X) 62)) wr.heap.size = some (.cells (wcells A C X) 62 (0, 0)) := heap_alloc_new _ _
          have H3 := H2.below bA
          have hwl3 := hwl.below bA
          have T3 := T2.trans (Turn.of_below bA _)
          have hz3 : B5 ≤ (wr.alloc (.cells (wcells A C X) 62)).heap.size := by have := bA.size; omega
          clear bA H2 hwl hlw hsw a1 y1 T2 hz2
          generalize wr.alloc (.cells (wcells A C X) 62) = W3 at *
          generalize wr.heap.size = K at *
          have b4 : Below W3.heap.size W3 W3.drew := below_drewN (Below.refl _ W3) 1
          have H4 := H3.below b4
          have hwl4 := hwl3.below b4
          have T4 := T3.trans (Turn.of_below b4 _)
          have kb4 := wa_of ((b4.block K (lt_of_heap kb)).trans kb)
          have hz4 : B5 ≤ W3.drew.heap.size := hz3
          clear kb b4 H3 hwl3 T3 hz3
          refine wp_region_held_drew (S := fun W => WA K A C X W ∧ TC t L.s L.v R.d R.q W) (by kernel_rfl) ⟨kb4, H4.tc⟩ (fun hHeld => ?_)
          clear kb4
          refine reg_take (i := 0) (v := ?_) rfl rfl (by kernel_rfl) (by kernel_rfl) (by kernel_rfl) (fun _ _ _ h => h) (by assumption) (by rfl) ?_ ?_
          rotate_left 1
          · (intro w hSw; (try dsimp only at hSw); go_simp; try with_reducible rfl)
          try simp only [List.setIfInBounds_toArray, List.set_cons_zero, List.set_cons_succ]
          refine reg_take (i := 1) (v := ?_) rfl rfl (by kernel_rfl) (by kernel_rfl) (by kernel_rfl) (fun _ _ _ h => h) (by assumption) (by rfl) ?_ ?_
          rotate_left 1
          · (intro w hSw; (try dsimp only at hSw); go_simp; try with_reducible rfl)
          try simp only [List.setIfInBounds_toArray, List.set_cons_zero, List.set_cons_succ]
          refine reg_take (i := 2) (v := ?_) rfl rfl (by kernel_rfl) (by kernel_rfl) (by kernel_rfl) (fun _ _ _ h => h) (by assumption) (by rfl) ?_ ?_
          rotate_left 1
          · (intro w hSw; (try dsimp only at hSw); go_simp; try with_reducible rfl)
          try simp only [List.setIfInBounds_toArray, List.set_cons_zero, List.set_cons_succ]
          refine reg_take (i := 3) (v := ?_) rfl rfl (by kernel_rfl) (by kernel_rfl) (by kernel_rfl) (fun _ _ _ h => h) (by assumption) (by rfl) ?_ ?_
          rotate_left 1
          · (intro w hSw; (try dsimp only at hSw); go_simp; try with_reducible rfl)
          try simp only [List.setIfInBounds_toArray, List.set_cons_zero, List.set_cons_succ]
          refine reg_take (i := 4) (v := ?_) rfl rfl (by kernel_rfl) (by kernel_rfl) (by kernel_rfl) (fun _ _ _ h => h) (by assumption) (by rfl) ?_ ?_
          rotate_left 1
          · (intro w hSw; (try dsimp only at hSw); go_simp; try with_reducible rfl)
          try simp only [List.setIfInBounds_toArray, List.set_cons_zero, List.set_cons_succ]
          refine reg_take (i := 5) (v := ?_) rfl rfl (by kernel_rfl) (by kernel_rfl) (by kernel_rfl) (fun _ _ _ h => h) (by assumption) (by rfl) ?_ ?_
          rotate_left 1
          · (intro w hSw; (try dsimp only at hSw); go_simp; try with_reducible rfl)
          try simp only [List.setIfInBounds_toArray, List.set_cons_zero, List.set_cons_succ]
          refine reg_take (i := 6) (v := ?_) rfl rfl (by kernel_rfl) (by kernel_rfl) (by kernel_rfl) (fun _ _ _ h => h) (by assumption) (by rfl) ?_ ?_
          rotate_left 1
          · (intro w hSw; (try dsimp only at hSw); go_simp; try with_reducible rfl)
          try simp only [List.setIfInBounds_toArray, List.set_cons_zero, List.set_cons_succ]
          refine reg_take (i := 7) (v := (.agg X.cells)) rfl rfl (by kernel_rfl) (by kernel_rfl) (by kernel_rfl) (fun _ _ _ h => h) (by assumption) (by rfl) (fun W hW => run_loadV_mid W K 2 _ X _ _ hW.1.2.2 (wcells_ext A C X)) ?_
          try simp only [List.setIfInBounds_toArray, List.set_cons_zero, List.set_cons_succ]
          refine reg_step (i := 8) (by kernel_rfl) rfl (by rfl) (fun KC hKC => ?_)
          go_simp
          refine (rput_any R.d R.s _ A C X hky _ H4.p.r.sa).mono ?_; rintro e w4 ⟨rfl, hS4, T5⟩
          have H5 := H4.rstore hS4 T5
          have kK := wa_turn hHeld.1 T5 (show ¬ K = R.s from by have := H4.p.far hHeld.1.2.2 (by decide); omega)
          have hwl5 := hwl4.turn T5 (fun i hi (e : i = R.s) => by omega)
          have T6 := T4.trans (T5.mono fun i _ (e : i = R.s) => by first | exact Or.inr (Or.inl e) | exact Or.inr (Or.inr e))
          have hz5 := T5.size
          clear H4 hwl4 T4 hS4 T5 hHeld
          refine hKC.out _ _ ?_ (fun hHeld => ?_)
          · exact ⟨kK, H5.tc⟩
          clear hKC KC kK
          refine wpAnyH_done (by kernel_rfl) ?_ _
          clear hHeld
          go_wp2_with fail
          exact ⟨⟨m + 1, by omega, by go_num, by rw [HST.out]; exact H5, hwl5, T6, by omega⟩, by simp [intOf]; omega⟩
        · have l2 : ¬ (m : Int) < ((wrL a).length : Int) := by omega
          obtain rfl : m = (wrL a).length := by omega
          rw [List.take_length] at H2
          clear hwl HPA HKY
          go_wp2_with fail
          have q1 := F.lo L.l (Or.inl rfl)
          have q2 := F.ro R.s (Or.inl rfl)
          refine (dlook_any w t L.s L.l R.d R.s _ _ _ _ _ H2.p.v.sa H2.p.r.sa H2.tw H2.p.b H2.tz ⟨q1.1, q2.1⟩ F.sl (by omega) (by omega)).mono ?_; rintro e w6 ⟨rfl, L', R', e1, e2, e3, e4, H6, T6⟩
          go_wp2_with fail
          go_end0
          exact ⟨rfl, L', R', H6, T2.trans (T6.mono fun i _ (e : i = t) => Or.inl e)⟩
end Go.Proofs.YtfcgkjbifnhjjaaGreatDoor.St
