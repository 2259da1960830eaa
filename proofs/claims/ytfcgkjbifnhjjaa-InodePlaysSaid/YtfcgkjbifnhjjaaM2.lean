/- The contracts of the document's inodes (key, Is, Alloc) over its own view. The contract of the document's own change of an inode. The contracts of the document's own Read and Write of an inode. What inodes hold behind each call, in plain Lean: what is written is read again; what is done to one changes no other. What cloisterlaw10.InodePlays keeps of a view's state: objects alone, texts of bounded size. The walk of cloisterlaw10.InodePlays. No condition but those written in each statement. -/
import Derived.Test.YtfcgkjbifnhjjaaInoC
import Derived.Test.YtfcgkjbifnhjjaaRefW
import Derived.Test.YtfcgkjbifnhjjaaM1
import Derived.Test.YtfcgkjbifnhjjaaBitA
import Derived.Deep.Cut
import Derived.Test.YtfcgkjbifnhjjaaInoD
import Derived.Test.YtfcgkjbifnhjjaaInoF
import Derived.Test.YtfcgkjbifnhjjaaInoRuns
import Derived.Test.YtfcgkjbifnhjjaaText
import Derived.Test.YtfcgkjbifnhjjaaWithin
import Derived.Deep.CutBlock
namespace Go.Proofs.Ytfcgkjbifnhjjaa.St
open Go.RowKit
set_option linter.unusedVariables false
attribute [local go_sem] blk_alloc_at blk_alloc_past blk_drew blk_drewN blk_setB_same blk_setB_other blk_setRow_other setRow_alloc_at setRow_alloc_past setRow_drewN setRow_drew setB_size setB_cell setB_frozen setB_alloc_past setB_drewN setB_drew run_loadV loadOr_cells run_storeV storeOr_cells cells_size ones_cells cells_0 cells_1 cells_2 cells_16 cells_g0 cells_g1 cells_g2 cells_g16 cells_set0 cells_set1 cells_set2 cells_text
attribute [local go_sem ↓] execOp_loadV execOp_storeV
theorem and_zero (y : Int) : (bits BinOp.and IntKind.i64 y 1 == 0) = !(bits BinOp.and IntKind.i64 y 1 == 1) := by
  have h1 : (BitVec.ofInt 64 1).toNat = 2 ^ 1 - 1 := by decide
  have e : bits BinOp.and IntKind.i64 y 1 = wrap64 (((BitVec.ofInt 64 y).toNat % 2 : Nat) : Int) := by
    show IntKind.i64.wrap (((BitVec.ofInt 64 y) &&& (BitVec.ofInt 64 1)).toNat : Int) = _
    rw [BitVec.toNat_and, h1, Nat.and_two_pow_sub_one_eq_mod, wrap_i64]
  rw [e]
  have : (BitVec.ofInt 64 y).toNat % 2 = 0 ∨ (BitVec.ofInt 64 y).toNat % 2 = 1 := by omega
  have w0 : wrap64 ((0 : Nat) : Int) = 0 := by unfold wrap64; omega
  have w1 : wrap64 ((1 : Nat) : Int) = 1 := by unfold wrap64; omega
  rcases this with q | q
  · rw [q, w0]; rfl
  · rw [q, w1]; rfl
attribute [local irreducible] Int.lt Int.le
/-- A value's numbers. -/
def Val.ns (x : Val) : Array Value :=
  #[.int .i64 (x.n 0), .int .i64 (x.n 1), .int .i64 (x.n 2), .int .i64 (x.n 3), .int .i64 (x.n 4), .int .i64 (x.n 5), .int .i64 (x.n 6), .int .i64 (x.n 7),
    .int .i64 (x.n 8), .int .i64 (x.n 9), .int .i64 (x.n 10), .int .i64 (x.n 11), .int .i64 (x.n 12), .int .i64 (x.n 13), .int .i64 (x.n 14), .int .i64 (x.n 15)]
theorem run_field0 (x : Val) (w : World) : (Instr.field 47 (.agg x.cells) 0).run Try.prog w = .ok (.agg x.ns) w := by kernel_rfl
theorem run_field1 (x : Val) (w : World) : (Instr.field 47 (.agg x.cells) 1).run Try.prog w = .ok (.string x.s) w := by kernel_rfl
theorem run_index0 (x : Val) (w : World) : (Instr.index 45 (.agg x.ns) (.int .i64 0)).run Try.prog w = .ok (.int .i64 (x.n 0)) w := by kernel_rfl
attribute [local go_sem] run_field0 run_field1 run_index0
theorem rikey_any (i : Int) (w : World) :
    Calls Try.prog 47 #[.int .i64 i] w fun e w' => e = .returned (keyV 10 i) ∧ Below w.heap.size w w' := by
  go_enter Try.func47, Try.ntmps47
  go_wp2_with fail
  exact bodyPost_key (b := w.heap.size) rfl rfl rfl (heap_alloc_new _ _) rfl ⟨rfl, (Below.refl _ _).alloc (Nat.le_refl _) _⟩
theorem RViewAt.off {B : Nat} {W W' : World} {R : RLay} {st : VSt} (h : RViewAt W R st) (hT : Turn (fun j => B ≤ j) W W') (lt : R.q < B ∧ R.d < B ∧ R.s < B ∧ R.r < B ∧ R.m < B) : RViewAt W' R st :=
  h.keep hT (fun i q => by omega)
set_option maxRecDepth 100000 in
set_option maxHeartbeats 1000000 in
theorem ris_any (R : RLay) (st : VSt) (i : Int) (w : World) (hV : RViewAt w R st) :
    Calls Try.prog 17 #[.pointer (some ⟨R.q, 0, none⟩), .int .i64 i] w fun e w' => e = .returned (.bool (iHas st i)) ∧ RViewAt w' R (iSaw st i) ∧ Turn (· = R.r) w w' := by
  unfold iHas iSaw
  by_cases h : i < 1 ∨ 16 ≤ i
  · rw [if_pos h, if_pos h]
    have hh : decide (1 ≤ i) = false ∨ decide (1 ≤ i) = true ∧ decide (i < 16) = false := by simp; omega
    rcases hh with h1 | ⟨h1, h2⟩
    all_goals
      go_enter Try.func17, Try.ntmps17
      go_wp2_with fail
      go_ret
      exact ⟨rfl, hV, Turn.refl _ _⟩
  · rw [if_neg h, if_neg h]
    have h1 : decide (1 ≤ i) = true := by simp; omega
    have h2 : decide (i < 16) = true := by simp; omega
    have lt := hV.lts
    go_enter Try.func17, Try.ntmps17
    go_wp2_with fail
    refine (rikey_any i _).mono ?_; rintro e w1 ⟨rfl, t1⟩
    have hv1 := hV.below t1
    go_wp2_with fail
    refine (rvget_any R st 10 i (by decide) _ hv1).mono ?_; rintro e w2 ⟨rfl, hv2, t2⟩
    generalize hg : st.get 10 i = x at *
    go_wp2_with fail
    go_ret
    exact ⟨by rw [hg]; rfl, hv2, (Turn.of_below t1 _).trans t2⟩
theorem rmaps {R : RLay} {W W' : World} (h : Turn (· = R.r) W W') : Turn (fun k => k = R.r ∨ k = R.m) W W' := h.mono fun _ _ => Or.inl
theorem rmaps' {R : RLay} {W W' : World} (h : Turn (· = R.m) W W') : Turn (fun k => k = R.r ∨ k = R.m) W W' := h.mono fun _ _ => Or.inr
theorem rvput_at {R : RLay} {st : VSt} {k n : Int} {x : Val} (hk : k ≤ 9223372036854775807) {w : World} (hV : RViewAt w R st) :
    Calls Try.prog 46 #[.pointer (some ⟨R.q, 0, none⟩), keyV k n, .agg x.cells] w fun e w' => (∃ v, e = .returned v) ∧ RViewAt w' R (st.put k n x) ∧ Turn (fun k => k = R.r ∨ k = R.m) w w' :=
  (rvput_any R st k n x hk w hV).mono fun e w' ⟨a, b, c⟩ => ⟨a, b, rmaps' c⟩
set_option maxRecDepth 100000 in
set_option maxHeartbeats 4000000 in
theorem ralloc_any (R : RLay) (st : VSt) (t : Int) (w : World) (hV : RViewAt w R st) :
    Calls Try.prog 7 #[.pointer (some ⟨R.q, 0, none⟩), .int .i64 t] w fun e w' => e = .returned (.tuple #[.int .i64 (iGot st), .bool (decide (iFree st < 16))]) ∧ RViewAt w' R (iAlloc st t) ∧ Turn (fun k => k = R.r ∨ k = R.m) w w' := by
  have lt := hV.lts
  have hz := zero_val
  go_enter Try.func7, Try.ntmps7
  go_upto_region 2 with fail
  have t1 : Below w.heap.size w (w.alloc (.cells #[.int .i64 9, .int .i64 0] 51)) := (Below.refl _ _).alloc (Nat.le_refl _) _
  have hK1 : K2 w.heap.size 9 0 (w.alloc (.cells #[.int .i64 9, .int .i64 0] 51)) := ⟨cell_of_row _ _ 0 _ _ _ (heap_alloc_new _ _), cell_of_row _ _ 1 _ _ _ (heap_alloc_new _ _)⟩
  have hv1 := hV.below t1
  have T1 : Turn (fun k => k = R.r ∨ k = R.m) w (w.alloc (.cells #[.int .i64 9, .int .i64 0] 51)) := Turn.of_below t1 _
  clear t1 hV
  generalize w.alloc (.cells #[.int .i64 9, .int .i64 0] 51) = W1 at *
  have hKm : w.heap.size ≠ R.r ∧ w.heap.size ≠ R.m := by omega
  clear lt
  generalize w.heap.size = K at *
  have lt := hv1.lts
  obtain ⟨k0, k1⟩ := hK1
  go_wp2_with fail
  refine (rvget_any R st 9 0 (by decide) _ hv1).mono ?_; rintro e w2 ⟨rfl, hv2, t2⟩
  have hK2 := turn_cells_two ⟨k0, k1⟩ t2 hKm.1
  have T2 := T1.trans (rmaps t2)
  generalize hx : st.get 9 0 = x at *
  clear hv1 t2 k0 k1 T1
  go_upto_region 3 with fail
  have b3 : Below w2.heap.size w2 (w2.alloc (Obj.cells x.cells 47)) := (Below.refl _ _).alloc (Nat.le_refl _) _
  have hK3 := cells_two hK2 b3
  have hv3 := hv2.below b3
  have r3 : blk (w2.alloc (Obj.cells x.cells 47)) w2.heap.size = some (.cells x.cells 47 (0, 0)) := blk_alloc_at _ _ _ rfl
  have T3 := T2.trans (Turn.of_below b3 _)
  have hl3 := hv2.lts
  have hB0 := T2.size
  have hKB : K < w2.heap.size := cell_block_lt hK2.1
  clear hK2 hv2 T2 b3
  generalize (w2.alloc (Obj.cells x.cells 47)) = W3 at *
  generalize w2.heap.size = B at *
  have f3 := frozen_blk r3 0
  have c0 := cell_of_row _ _ 0 _ _ _ r3
  rw [cells_0] at c0
  go_wp2_with fail
  go_loop [8] (fun i => ∃ j : Nat, 1 ≤ j ∧ j ≤ 16 ∧ i = .int .i64 (j : Int) ∧ iFree st = freeN (x.n 0) (16 - j)) (fun i => 16 - (intOf i).toNat)
  case atStart => exact ⟨1, by omega, by omega, rfl, by unfold iFree; rw [hx]⟩
  case round =>
    obtain ⟨j, j1, j2, rfl, hfree⟩ := hrel
    have j0 : (0 : Int) ≤ (j : Int) := by omega
    by_cases hlt : j < 16
    · have hj : (j : Int) < 16 := by omega
      cases hbit : (bits BinOp.and IntKind.i64 (x.n 0 / 2 ^ j) 1 == 0)
      · have hu : usedI (x.n 0) j = true := by
          have := and_zero (x.n 0 / 2 ^ j)
          rw [hbit] at this
          unfold usedI
          cases h : (bits BinOp.and IntKind.i64 (x.n 0 / 2 ^ j) 1 == 1)
          · rw [h] at this; cases this
          · rfl
        go_wp2_with fail
        go_round
        case rel => exact ⟨j + 1, by omega, by omega, by go_num, hfree.trans (freeN_past _ _ hlt hu)⟩
        case measure => simp [intOf]; omega
      · have hu : usedI (x.n 0) j = false := by
          have := and_zero (x.n 0 / 2 ^ j)
          rw [hbit] at this
          unfold usedI
          cases h : (bits BinOp.and IntKind.i64 (x.n 0 / 2 ^ j) 1 == 1)
          · rfl
          · rw [h] at this; cases this
        have hf : iFree st = j := hfree.trans (freeN_hit _ _ hlt hu)
        go_upto_region 7 with fail
        go_region
        rw [markI_def]
        have r4 := blk_setCell_same r3 0 (Value.int IntKind.i64 (markI (x.n 0) j))
        rw [cells_set0] at r4
        have tl : Turn (fun k => B ≤ k) W3 (W3.setCell ⟨B, 0, none⟩ (Value.int IntKind.i64 (markI (x.n 0) j))).drew := ((Turn.refl _ W3).setCell (p := ⟨B, 0, none⟩) (Or.inl (show B ≤ B from Nat.le_refl _)) _).drew
        have hv4 := hv3.off tl hl3
        have hK4 := turn_cells_two hK3 tl (by omega)
        have T4 := T3.offS tl hB0
        have r4d : blk (W3.setCell ⟨B, 0, none⟩ (Value.int IntKind.i64 (markI (x.n 0) j))).drew B = some (.cells (x.set 0 (markI (x.n 0) j)).cells 47 (0, 0)) := by rw [blk_drew]; exact r4
        clear tl r4 r3 f3 c0 hv3 hK3 T3
        generalize (W3.setCell ⟨B, 0, none⟩ (Value.int IntKind.i64 (markI (x.n 0) j))).drew = W4 at *
        generalize hy : x.set 0 (markI (x.n 0) j) = y at *
        obtain ⟨k0, k1⟩ := hK4
        go_wp2_with fail
        refine (rvput_at (R := R) (st := st.saw 9 0) (k := 9) (n := 0) (x := y) (by decide) hv4).mono ?_; rintro e w5 ⟨⟨v5, rfl⟩, hv5, t5⟩
        have T5 := T4.trans t5
        have hB5 := T5.size
        have hl5 := hv5.lts
        clear hv4 t5 k0 k1 r4d T4
        go_upto_region 11 with fail
        have b7 : Below w5.heap.size w5 (w5.alloc (Obj.cells (Val.zero.set 0 t).cells 47)).drew := below_drewN ((Below.refl w5.heap.size w5).alloc (Nat.le_refl _) (Obj.cells (Val.zero.set 0 t).cells 47)) 1
        have r7 : blk (w5.alloc (Obj.cells (Val.zero.set 0 t).cells 47)).drew w5.heap.size = some (.cells (Val.zero.set 0 t).cells 47 (0, 0)) := by rw [blk_drew]; exact heap_alloc_new _ _
        have hv7 := hv5.below b7
        have T7 := T5.trans (Turn.of_below b7 _)
        clear b7 hv5 T5
        refine wp_region_held_drew (S := fun W => blk W w5.heap.size = some (.cells (Val.zero.set 0 t).cells 47 (0, 0))) (by kernel_rfl) r7 (fun hHeld => ?_)
        clear r7
        generalize (w5.alloc (Obj.cells (Val.zero.set 0 t).cells 47)).drew = W7 at *
        generalize w5.heap.size = D at *
        refine reg_take (i := 0) (v := ?_) rfl rfl (by kernel_rfl) (by kernel_rfl) (by kernel_rfl) (fun _ _ _ h => h) (by assumption) (by rfl) ?_ ?_
        rotate_left 1
        · (intro w hSw; (try dsimp only at hSw); go_simp; try with_reducible rfl)
        try simp only [List.setIfInBounds_toArray, List.set_cons_zero, List.set_cons_succ]
        refine reg_take (i := 1) (v := ?_) rfl rfl (by kernel_rfl) (by kernel_rfl) (by kernel_rfl) (fun _ _ _ h => h) (by assumption) (by rfl) ?_ ?_
        rotate_left 1
        · (intro w hSw; (try dsimp only at hSw); go_simp; try with_reducible rfl)
        try simp only [List.setIfInBounds_toArray, List.set_cons_zero, List.set_cons_succ]
        refine reg_take (i := 3) (v := (.agg (Val.zero.set 0 t).cells)) rfl rfl (by kernel_rfl) (by kernel_rfl) (by kernel_rfl) (fun _ _ _ h => h) (by assumption) (by rfl) (fun W hW => loadV_blk hW) ?_
        try simp only [List.setIfInBounds_toArray, List.set_cons_zero, List.set_cons_succ]
        refine reg_step (i := 2) (by kernel_rfl) rfl (by rfl) (fun KC hKC => ?_)
        go_simp
        refine (rikey_any j _).mono ?_; rintro e w8 ⟨rfl, t8⟩
        have r8 := (t8.block D (lt_of_heap hHeld)).trans hHeld
        have hv8 := hv7.below t8
        have T8 := T7.trans (Turn.of_below t8 _)
        clear hHeld hv7 T7 t8
        refine hKC.out _ _ ?_ (fun hHeld => ?_)
        · exact r8
        clear hKC KC
        refine reg_step (i := 4) (by kernel_rfl) rfl (by rfl) (fun KC hKC => ?_)
        go_simp
        refine (rvput_at (R := R) (st := (st.saw 9 0).put 9 0 y) (k := 10) (n := j) (x := Val.zero.set 0 t) (by decide) hv8).mono ?_; rintro e w9 ⟨⟨v9, rfl⟩, hv9, t9⟩
        have T9 := T8.trans t9
        have r9 : blk w9 D = some (.cells (Val.zero.set 0 t).cells 47 (0, 0)) := by
          refine blk_of_turn t9 r8 (fun e => ?_)
          obtain ⟨_, _, q1, _⟩ := hv8.cr
          obtain ⟨_, _, q2, _⟩ := hv8.cm
          have n1 := cells_ne_map r8 q1
          have n2 := cells_ne_map r8 q2
          omega
        clear T8 t9 hHeld r8 hv8
        refine hKC.out _ _ ?_ (fun hHeld => ?_)
        · exact r9
        clear hKC KC
        refine wpAnyH_done (by kernel_rfl) ?_ _
        clear hHeld r9
        go_wp2_with fail
        go_ret2
        exact ⟨by unfold iGot; rw [hf, if_pos hlt]; simp [hlt], by unfold iAlloc iTake; rw [hf, if_pos hlt, hx, hy]; exact hv9, T9⟩
    · obtain rfl : j = 16 := by omega
      go_wp2_with fail
      go_ret2
      have hf : iFree st = 16 := hfree
      refine ⟨by unfold iGot; rw [hf]; rfl, by unfold iAlloc; rw [hf]; exact hv3, T3⟩
end Go.Proofs.Ytfcgkjbifnhjjaa.St

namespace Go.Proofs.Ytfcgkjbifnhjjaa.St
open Go.RowKit
set_option linter.unusedVariables false
attribute [local go_sem] blk_alloc_at blk_alloc_past blk_drew blk_drewN blk_setB_same blk_setB_other blk_setRow_other setRow_alloc_at setRow_alloc_past setRow_drewN setRow_drew setB_size setB_cell setB_frozen setB_alloc_past setB_drewN setB_drew run_loadV loadOr_cells run_storeV storeOr_cells cells_size ones_cells cells_0 cells_1 cells_2 cells_16 cells_g0 cells_g1 cells_g2 cells_g16 cells_set0 cells_set1 cells_set2 cells_text
attribute [local go_sem ↓] execOp_loadV execOp_storeV
attribute [local irreducible] Int.lt Int.le
theorem saw_twice (st : VSt) (k n : Int) : (st.saw k n).saw k n = st.saw k n := by
  unfold VSt.saw
  by_cases h : placeI k n < 0
  · rw [if_pos h, if_pos h]
  · rw [if_neg h, if_neg h]
    unfold VSt.reads
    congr 1
    funext a b
    unfold updK
    by_cases e : a = k ∧ b = n <;> simp [e]
theorem get_saw' (st : VSt) (a b k n : Int) : (st.saw a b).get k n = st.get k n := by
  unfold VSt.saw
  split
  · rfl
  · rfl
/-- What is said of an inode that is there. -/
theorem has_val {st : VSt} {i : Int} (h : iHas st i = true) : iSaw st i = st.saw 10 i ∧ iVal st i = st.get 10 i := by
  have h1 := has_in h
  unfold iHas at h
  rw [if_neg (by omega)] at h
  refine ⟨by unfold iSaw; rw [if_neg (by omega)], ?_⟩
  unfold iVal iValIn
  rw [if_neg (by omega), if_neg (fun e => ?_)]
  rw [e] at h
  cases h
theorem rchange_no (R : RLay) (st : VSt) (i l h : Int) (hh : iHas st i = false) (w : World) (hV : RViewAt w R st) :
    Calls Try.prog 9 #[.pointer (some ⟨R.q, 0, none⟩), .int .i64 i, .int .i64 l, .int .i64 h] w fun e w' => e = .returned (.bool false) ∧ RViewAt w' R (iSaw st i) ∧ Turn (fun k => k = R.r ∨ k = R.m) w w' := by
  go_enter Try.func9, Try.ntmps9
  go_wp2_with fail
  refine (ris_any R st i _ hV).mono ?_; rintro e w1 ⟨rfl, hv1, t1⟩
  go_wp2_with fail
  go_ret
  exact ⟨rfl, hv1, rmaps t1⟩
set_option maxRecDepth 100000 in
set_option maxHeartbeats 4000000 in
theorem rchange_yes (R : RLay) (st : VSt) (i l h : Int) (hh : iHas st i = true) (w : World) (hV : RViewAt w R st) :
    Calls Try.prog 9 #[.pointer (some ⟨R.q, 0, none⟩), .int .i64 i, .int .i64 l, .int .i64 h] w fun e w' => e = .returned (.bool true) ∧ RViewAt w' R (iChange st i l h) ∧ Turn (fun k => k = R.r ∨ k = R.m) w w' := by
  have hz := zero_val
  obtain ⟨i1, i2⟩ := has_in hh
  obtain ⟨es, ev⟩ := has_val hh
  have HS := Lib.hid es
  have HV := Lib.hid ev
  clear es ev
  go_enter Try.func9, Try.ntmps9
  go_wp2_with fail
  refine (ris_any R st i _ hV).mono ?_; rintro e w1 ⟨rfl, hv1, t1⟩
  rw [HS.out] at hv1
  have T1 := rmaps t1
  clear t1 hV
  go_wp2_with fail
  refine (rikey_any i _).mono ?_; rintro e w2 ⟨rfl, t2⟩
  have hv2 := hv1.below t2
  have T2 := T1.trans (Turn.of_below t2 _)
  clear hv1 T1 t2
  go_wp2_with fail
  refine (rvget_any R _ 10 i (by decide) _ hv2).mono ?_; rintro e w3 ⟨rfl, hv3, t3⟩
  rw [saw_twice] at hv3
  rw [get_saw']
  have T3 := T2.trans (rmaps t3)
  generalize hx : st.get 10 i = x at *
  clear hv2 T2 t3
  go_upto_region 5 with fail
  have hch : iChange st i l h = if (iTurn x l h).n 1 ≤ 0 ∧ (iTurn x l h).n 2 ≤ 0 then (((st.saw 10 i).saw 9 0).put 9 0 (((st.saw 10 i).get 9 0).set 0 (unmarkI (((st.saw 10 i).get 9 0).n 0) i))).put 10 i Val.zero else (st.saw 10 i).put 10 i (iTurn x l h) := by
    unfold iChange
    rw [if_neg (by rw [hh]; decide), HS.out, HV.out]
  have HC := Lib.hid hch
  rw [show ((x.set 1 (wrap64 (x.n 1 + l))).set 2 (wrap64 (x.n 2 + h))) = iTurn x l h from rfl]
  clear hch
  generalize hy : iTurn x l h = y at *
  have b4 : Below w3.heap.size w3 (w3.alloc (Obj.cells y.cells 47)) := (Below.refl _ _).alloc (Nat.le_refl _) _
  have r4 : blk (w3.alloc (Obj.cells y.cells 47)) w3.heap.size = some (.cells y.cells 47 (0, 0)) := heap_alloc_new _ _
  have hv4 := hv3.below b4
  have T4 := T3.trans (Turn.of_below b4 _)
  have hl4 := hv3.lts
  have hB0 := T3.size
  clear hv3 b4 T3 hy
  generalize (w3.alloc (Obj.cells y.cells 47)) = W4 at *
  generalize w3.heap.size = B at *
  generalize st.saw 10 i = st1 at *
  have c1 := cell_of_row _ _ 1 _ _ _ r4
  have c2 := cell_of_row _ _ 2 _ _ _ r4
  rw [cells_1] at c1
  rw [cells_2] at c2
  by_cases gone : y.n 1 ≤ 0 ∧ y.n 2 ≤ 0
  · have hC : iChange st i l h = ((st1.saw 9 0).put 9 0 ((st1.get 9 0).set 0 (unmarkI ((st1.get 9 0).n 0) i))).put 10 i Val.zero := by rw [HC.out, if_pos gone]
    have HC2 := Lib.hid hC
    have g1 : decide (y.n 1 ≤ 0) = true := decide_eq_true gone.1
    have g2 : decide (y.n 2 ≤ 0) = true := decide_eq_true gone.2
    clear gone hC HC
    go_upto_region 8 with fail
    have t5 : Turn (fun k => B ≤ k) W4 ((W4.setRow B Val.zero.cells).alloc (.cells #[.int .i64 9, .int .i64 0] 51)) := ((Turn.refl _ W4).setRow (Or.inl (Nat.le_refl B)) _).alloc _
    have r5 : blk ((W4.setRow B Val.zero.cells).alloc (.cells #[.int .i64 9, .int .i64 0] 51)) B = some (.cells Val.zero.cells 47 (0, 0)) := by
      rw [blk_alloc_past _ _ _ (by have := lt_of_heap r4; simp; omega)]; exact setRow_heap _ _ _ _ _ _ r4
    have hs5 : (W4.setRow B Val.zero.cells).heap.size = W4.heap.size := by simp
    have k5 : K2 W4.heap.size 9 0 ((W4.setRow B Val.zero.cells).alloc (.cells #[.int .i64 9, .int .i64 0] 51)) := by
      rw [← hs5]; exact ⟨cell_of_row _ _ 0 _ _ _ (heap_alloc_new _ _), cell_of_row _ _ 1 _ _ _ (heap_alloc_new _ _)⟩
    have hv5 := hv4.off t5 hl4
    have T5 := T4.offS t5 hB0
    have hKB : B < W4.heap.size := lt_of_heap r4
    clear t5 r4 hs5 hv4 T4 c1 c2
    generalize (W4.setRow B Val.zero.cells).alloc (.cells #[.int .i64 9, .int .i64 0] 51) = W5 at *
    generalize W4.heap.size = K at *
    obtain ⟨k0, k1⟩ := k5
    go_wp2_with fail
    refine (rvget_any R st1 9 0 (by decide) _ hv5).mono ?_; rintro e w6 ⟨rfl, hv6, t6⟩
    have T6 := T5.trans (rmaps t6)
    have r6 := blk_of_turn t6 r5 (show ¬ B = R.r by omega)
    have k6 := turn_cells_two ⟨k0, k1⟩ t6 (show ¬ K = R.r by omega)
    have hl6 := hv6.lts
    have hK6 : K < w6.heap.size := cell_block_lt k6.1
    have hB6 := T6.size
    generalize hu : st1.get 9 0 = u at *
    clear hv5 T5 r5 k0 k1 t6
    go_upto_region 9 with fail
    have b7 : Below w6.heap.size w6 (w6.alloc (Obj.cells u.cells 47)) := (Below.refl _ _).alloc (Nat.le_refl _) _
    have q7 : blk (w6.alloc (Obj.cells u.cells 47)) w6.heap.size = some (.cells u.cells 47 (0, 0)) := heap_alloc_new _ _
    have r7 := (b7.block B (lt_of_heap r6)).trans r6
    have k7 := cells_two k6 b7
    have hv7 := hv6.below b7
    have T7 := T6.trans (Turn.of_below b7 _)
    clear b7 r6 k6 hv6 T6
    generalize w6.alloc (Obj.cells u.cells 47) = W7 at *
    generalize w6.heap.size = C at *
    have f7 := frozen_blk q7 0
    have c0 := cell_of_row _ _ 0 _ _ _ q7
    rw [cells_0] at c0
    go_region
    have eu : bits BinOp.andNot IntKind.i64 (u.n 0) (wrap64 (2 ^ i.toNat)) = unmarkI (u.n 0) i := by rw [unmarkI]
    rw [eu]
    have q8 := blk_setCell_same q7 0 (Value.int IntKind.i64 (unmarkI (u.n 0) i))
    rw [cells_set0] at q8
    have tl : Turn (· = C) W7 (W7.setCell ⟨C, 0, none⟩ (Value.int IntKind.i64 (unmarkI (u.n 0) i))).drew := ((Turn.refl (· = C) W7).setCell (p := ⟨C, 0, none⟩) (Or.inl (show C = C from rfl)) _).drew
    have hv8 := hv7.keep tl (fun i (e : i = C) => by omega)
    have k8 := turn_cells_two k7 tl (show ¬ K = C by omega)
    have r8 := blk_of_turn tl r7 (show ¬ B = C by omega)
    have T8 := T7.offS (tl.mono fun i _ (e : i = C) => (show B ≤ i by omega)) hB0
    have q8d : blk (W7.setCell ⟨C, 0, none⟩ (Value.int IntKind.i64 (unmarkI (u.n 0) i))).drew C = some (.cells (u.set 0 (unmarkI (u.n 0) i)).cells 47 (0, 0)) := by rw [blk_drew]; exact q8
    clear tl q8 q7 f7 c0 hv7 k7 r7 T7 eu
    generalize (W7.setCell ⟨C, 0, none⟩ (Value.int IntKind.i64 (unmarkI (u.n 0) i))).drew = W8 at *
    generalize hzz : u.set 0 (unmarkI (u.n 0) i) = z at *
    obtain ⟨k0, k1⟩ := k8
    go_wp2_with fail
    refine (rvput_at (R := R) (st := st1.saw 9 0) (k := 9) (n := 0) (x := z) (by decide) hv8).mono ?_; rintro e WA ⟨⟨vA, rfl⟩, hvA, tA⟩
    have TA := T8.trans tA
    have rA : blk WA B = some (.cells Val.zero.cells 47 (0, 0)) := blk_of_turn tA r8 (show ¬ (B = R.r ∨ B = R.m) by omega)
    clear hv8 T8 tA r8 k0 k1 q8d
    go_upto_region 11 with fail
    have b7 : Below WA.heap.size WA WA.drew := below_drewN (Below.refl _ WA) 1
    have r7 : blk WA.drew B = some (.cells Val.zero.cells 47 (0, 0)) := rA
    have hv7 := hvA.below b7
    have T7 := TA.trans (Turn.of_below b7 _)
    clear b7 hvA TA rA
    refine wp_region_held_drew (S := fun W => blk W B = some (.cells Val.zero.cells 47 (0, 0))) (by kernel_rfl) r7 (fun hHeld => ?_)
    clear r7
    refine reg_take (i := 0) (v := ?_) rfl rfl (by kernel_rfl) (by kernel_rfl) (by kernel_rfl) (fun _ _ _ h => h) (by assumption) (by rfl) ?_ ?_
    rotate_left 1
    · (intro w hSw; (try dsimp only at hSw); go_simp; try with_reducible rfl)
    try simp only [List.setIfInBounds_toArray, List.set_cons_zero, List.set_cons_succ]
    refine reg_take (i := 1) (v := ?_) rfl rfl (by kernel_rfl) (by kernel_rfl) (by kernel_rfl) (fun _ _ _ h => h) (by assumption) (by rfl) ?_ ?_
    rotate_left 1
    · (intro w hSw; (try dsimp only at hSw); go_simp; try with_reducible rfl)
    try simp only [List.setIfInBounds_toArray, List.set_cons_zero, List.set_cons_succ]
    refine reg_take (i := 3) (v := (.agg Val.zero.cells)) rfl rfl (by kernel_rfl) (by kernel_rfl) (by kernel_rfl) (fun _ _ _ h => h) (by assumption) (by rfl) (fun W hW => loadV_blk hW) ?_
    try simp only [List.setIfInBounds_toArray, List.set_cons_zero, List.set_cons_succ]
    refine reg_step (i := 2) (by kernel_rfl) rfl (by rfl) (fun KC hKC => ?_)
    go_simp
    refine (rikey_any i _).mono ?_; rintro e w8 ⟨rfl, t8⟩
    have r8 := (t8.block B (lt_of_heap hHeld)).trans hHeld
    have hv8 := hv7.below t8
    have T8 := T7.trans (Turn.of_below t8 _)
    clear hHeld hv7 T7 t8
    refine hKC.out _ _ ?_ (fun hHeld => ?_)
    · exact r8
    clear hKC KC
    refine reg_step (i := 4) (by kernel_rfl) rfl (by rfl) (fun KC hKC => ?_)
    go_simp
    refine (rvput_at (R := R) (st := (st1.saw 9 0).put 9 0 z) (k := 10) (n := i) (x := Val.zero) (by decide) hv8).mono ?_; rintro e w9 ⟨⟨v9, rfl⟩, hv9, t9⟩
    have T9 := T8.trans t9
    have r9 : blk w9 B = some (.cells Val.zero.cells 47 (0, 0)) := by
      refine blk_of_turn t9 r8 (fun e => ?_)
      obtain ⟨_, _, q1, _⟩ := hv8.cr
      obtain ⟨_, _, q2, _⟩ := hv8.cm
      have n1 := cells_ne_map r8 q1
      have n2 := cells_ne_map r8 q2
      omega
    clear T8 t9 hHeld r8 hv8
    refine hKC.out _ _ ?_ (fun hHeld => ?_)
    · exact r9
    clear hKC KC
    refine wpAnyH_done (by kernel_rfl) ?_ _
    clear hHeld r9
    go_wp2_with fail
    go_ret
    exact ⟨rfl, by rw [HC2.out]; exact hv9, T9⟩
  · have hC : iChange st i l h = st1.put 10 i y := by rw [HC.out, if_neg gone]
    have HC2 := Lib.hid hC
    clear hC HC
    have hg : decide (y.n 1 ≤ 0) = false ∨ decide (y.n 1 ≤ 0) = true ∧ decide (y.n 2 ≤ 0) = false := by
      by_cases h1 : y.n 1 ≤ 0
      · exact Or.inr ⟨decide_eq_true h1, decide_eq_false fun h2 => gone ⟨h1, h2⟩⟩
      · exact Or.inl (decide_eq_false h1)
    clear gone
    rcases hg with g1 | ⟨g1, g2⟩
    all_goals
      go_upto_region 11 with fail
      have b7 : Below W4.heap.size W4 W4.drew := below_drewN (Below.refl _ W4) 1
      have r7 : blk W4.drew B = some (.cells y.cells 47 (0, 0)) := r4
      have hv7 := hv4.below b7
      have T7 := T4.trans (Turn.of_below b7 _)
      clear b7 hv4 T4 r4
      refine wp_region_held_drew (S := fun W => blk W B = some (.cells y.cells 47 (0, 0))) (by kernel_rfl) r7 (fun hHeld => ?_)
      clear r7
      refine reg_take (i := 0) (v := ?_) rfl rfl (by kernel_rfl) (by kernel_rfl) (by kernel_rfl) (fun _ _ _ h => h) (by assumption) (by rfl) ?_ ?_
      rotate_left 1
      · (intro w hSw; (try dsimp only at hSw); go_simp; try with_reducible rfl)
      try simp only [List.setIfInBounds_toArray, List.set_cons_zero, List.set_cons_succ]
      refine reg_take (i := 1) (v := ?_) rfl rfl (by kernel_rfl) (by kernel_rfl) (by kernel_rfl) (fun _ _ _ h => h) (by assumption) (by rfl) ?_ ?_
      rotate_left 1
      · (intro w hSw; (try dsimp only at hSw); go_simp; try with_reducible rfl)
      try simp only [List.setIfInBounds_toArray, List.set_cons_zero, List.set_cons_succ]
      refine reg_take (i := 3) (v := (.agg y.cells)) rfl rfl (by kernel_rfl) (by kernel_rfl) (by kernel_rfl) (fun _ _ _ h => h) (by assumption) (by rfl) (fun W hW => loadV_blk hW) ?_
      try simp only [List.setIfInBounds_toArray, List.set_cons_zero, List.set_cons_succ]
      refine reg_step (i := 2) (by kernel_rfl) rfl (by rfl) (fun KC hKC => ?_)
      go_simp
      refine (rikey_any i _).mono ?_; rintro e w8 ⟨rfl, t8⟩
      have r8 := (t8.block B (lt_of_heap hHeld)).trans hHeld
      have hv8 := hv7.below t8
      have T8 := T7.trans (Turn.of_below t8 _)
      clear hHeld hv7 T7 t8
      refine hKC.out _ _ ?_ (fun hHeld => ?_)
      · exact r8
      clear hKC KC
      refine reg_step (i := 4) (by kernel_rfl) rfl (by rfl) (fun KC hKC => ?_)
      go_simp
      refine (rvput_at (R := R) (st := st1) (k := 10) (n := i) (x := y) (by decide) hv8).mono ?_; rintro e w9 ⟨⟨v9, rfl⟩, hv9, t9⟩
      have T9 := T8.trans t9
      have r9 : blk w9 B = some (.cells y.cells 47 (0, 0)) := by
        refine blk_of_turn t9 r8 (fun e => ?_)
        obtain ⟨_, _, q1, _⟩ := hv8.cr
        obtain ⟨_, _, q2, _⟩ := hv8.cm
        have n1 := cells_ne_map r8 q1
        have n2 := cells_ne_map r8 q2
        omega
      clear T8 t9 hHeld r8 hv8
      refine hKC.out _ _ ?_ (fun hHeld => ?_)
      · exact r9
      clear hKC KC
      refine wpAnyH_done (by kernel_rfl) ?_ _
      clear hHeld r9
      go_wp2_with fail
      go_ret
      exact ⟨rfl, by rw [HC2.out]; exact hv9, T9⟩
theorem rchange_any (R : RLay) (st : VSt) (i l h : Int) (w : World) (hV : RViewAt w R st) :
    Calls Try.prog 9 #[.pointer (some ⟨R.q, 0, none⟩), .int .i64 i, .int .i64 l, .int .i64 h] w fun e w' => e = .returned (.bool (iHas st i)) ∧ RViewAt w' R (iChange st i l h) ∧ Turn (fun k => k = R.r ∨ k = R.m) w w' := by
  cases hh : iHas st i with
  | false =>
    have e : iChange st i l h = iSaw st i := by unfold iChange; rw [if_pos hh]
    rw [e]; exact rchange_no R st i l h hh w hV
  | true => exact rchange_yes R st i l h hh w hV
end Go.Proofs.Ytfcgkjbifnhjjaa.St

namespace Go.Proofs.Ytfcgkjbifnhjjaa.St
open Go.RowKit
set_option linter.unusedVariables false
theorem val_none {st : VSt} {i : Int} (h : iHas st i = false) : iVal st i = Val.zero := by
  unfold iHas at h
  unfold iVal iValIn
  by_cases c : i < 1 ∨ 16 ≤ i
  · rw [if_pos c]
  · rw [if_neg c] at h ⊢
    rw [if_pos (by simpa using h)]
theorem read_none {st : VSt} {i off n : Int} (h : iHas st i = false) : iRead st i off n = ByteArray.empty := by
  unfold iRead
  rw [val_none h, if_pos]
  rw [show ((Val.zero.s.size : Nat) : Int) = 0 from rfl]
  omega
theorem ext_ext (s : ByteArray) (a m : Nat) (h : a + m ≤ s.size) : (s.extract a s.size).extract 0 m = s.extract a (a + m) := by
  apply ByteArray.ext
  simp only [ByteArray.data_extract, Array.extract_extract]
  congr 1
  omega
attribute [local go_sem] blk_alloc_at blk_alloc_past blk_drew blk_drewN blk_setB_same blk_setB_other blk_setRow_other setRow_alloc_at setRow_alloc_past setRow_drewN setRow_drew setB_size setB_cell setB_frozen setB_alloc_past setB_drewN setB_drew run_loadV loadOr_cells run_storeV storeOr_cells cells_size ones_cells cells_0 cells_1 cells_2 cells_16 cells_g0 cells_g1 cells_g2 cells_g16 cells_set0 cells_set1 cells_set2 cells_text run_field1
attribute [local go_sem ↓] execOp_loadV execOp_storeV
attribute [local irreducible] Int.lt Int.le
set_option maxRecDepth 100000 in
set_option maxHeartbeats 1000000 in
theorem rread_any (R : RLay) (st : VSt) (i off n : Int) (hs : ((iVal st i).s.size : Int) ≤ 140737488351232) (w : World) (hV : RViewAt w R st) :
    Calls Try.prog 11 #[.pointer (some ⟨R.q, 0, none⟩), .int .i64 i, .int .i64 off, .int .i64 n] w fun e w' => e = .returned (.string (iRead st i off n)) ∧ RViewAt w' R (iSaw st i) ∧ Turn (· = R.r) w w' := by
  have hz := zero_val
  cases hh : iHas st i with
  | false =>
    rw [read_none hh]
    go_enter Try.func11, Try.ntmps11
    go_wp2_with fail
    refine (ris_any R st i _ hV).mono ?_; rintro e w1 ⟨rfl, hv1, t1⟩
    go_wp2_with fail
    go_ret
    exact ⟨rfl, hv1, t1⟩
  | true =>
    obtain ⟨es, ev⟩ := has_val hh
    have HS := Lib.hid es
    have HV := Lib.hid ev
    by_cases a1 : off < 0 ∨ n ≤ 0
    · have e : iRead st i off n = ByteArray.empty := by
        unfold iRead; rw [if_pos (by omega)]
      rw [e]
      have hg : decide (off < 0) = true ∨ decide (off < 0) = false ∧ decide (n ≤ 0) = true := by simp; omega
      clear es ev e hs
      rcases hg with g1 | ⟨g1, g2⟩
      all_goals
        go_enter Try.func11, Try.ntmps11
        go_wp2_with fail
        refine (ris_any R st i _ hV).mono ?_; rintro e w1 ⟨rfl, hv1, t1⟩
        go_wp2_with fail
        go_ret
        exact ⟨rfl, hv1, t1⟩
    · have g1 : decide (off < 0) = false := decide_eq_false (by omega)
      have g2 : decide (n ≤ 0) = false := decide_eq_false (by omega)
      have hr : iRead st i off n = if ((st.get 10 i).s.size : Int) ≤ off then ByteArray.empty else (st.get 10 i).s.extract off.toNat (off + min n ((st.get 10 i).s.size - off)).toNat := by
        unfold iRead
        rw [ev]
        by_cases c : ((st.get 10 i).s.size : Int) ≤ off
        · rw [if_pos (Or.inr (Or.inl c)), if_pos c]
        · rw [if_neg (by omega), if_neg c]
      have HR := Lib.hid hr
      rw [ev] at hs
      have o0 : 0 ≤ off := by omega
      have n1 : 1 ≤ n := by omega
      clear es ev hr a1
      go_enter Try.func11, Try.ntmps11
      go_wp2_with fail
      refine (ris_any R st i _ hV).mono ?_; rintro e w1 ⟨rfl, hv1, t1⟩
      rw [HS.out] at hv1
      go_wp2_with fail
      refine (rikey_any i _).mono ?_; rintro e w2 ⟨rfl, t2⟩
      have hv2 := hv1.below t2
      have T2 := t1.trans (Turn.of_below t2 _)
      clear hv1 t1 t2 hV
      go_wp2_with fail
      refine (rvget_any R _ 10 i (by decide) _ hv2).mono ?_; rintro e w3 ⟨rfl, hv3, t3⟩
      rw [saw_twice] at hv3
      rw [get_saw']
      have T3 := T2.trans t3
      generalize hx : st.get 10 i = x at *
      clear hv2 T2 t3
      by_cases c : (x.s.size : Int) ≤ off
      · have g3 : decide ((x.s.size : Int) ≤ off) = true := decide_eq_true c
        go_wp2_with fail
        go_ret
        exact ⟨by rw [HR.out, if_pos c]; rfl, by rw [HS.out]; exact hv3, T3⟩
      · have g3 : decide ((x.s.size : Int) ≤ off) = false := decide_eq_false c
        have q1 : off ≤ (x.s.size : Int) := by omega
        have e1 : wrap64 ((x.s.size : Int) - off) = (x.s.size : Int) - off := wrap_small _ (by omega) (by omega)
        have m0 : 0 ≤ min n ((x.s.size : Int) - off) := by omega
        have m1 : min n ((x.s.size : Int) - off) ≤ (((x.s.extract off.toNat x.s.size).size : Nat) : Int) := by
          rw [ByteArray.size_extract]; omega
        go_wp2_with fail
        go_ret
        refine ⟨?_, by rw [HS.out]; exact hv3, T3⟩
        rw [HR.out, if_neg (by omega)]
        show Ending.returned (.string ((x.s.extract off.toNat x.s.size).extract 0 (min n ((x.s.size : Int) - off)).toNat)) = _
        rw [ext_ext _ _ _ (by omega), show off.toNat + (min n ((x.s.size : Int) - off)).toNat = (off + min n ((x.s.size : Int) - off)).toNat by omega]
/-- Where nothing may be written. -/
theorem rwrite_no (R : RLay) (st : VSt) (i off : Int) (d : ByteArray) (hm : ¬ iMay st i off) (w : World) (hV : RViewAt w R st) :
    Calls Try.prog 15 #[.pointer (some ⟨R.q, 0, none⟩), .int .i64 i, .int .i64 off, .string d] w fun e w' => e = .returned (.int .i64 (-1)) ∧ RViewAt w' R (iSaw st i) ∧ Turn (· = R.r) w w' := by
  have hz := zero_val
  cases hh : iHas st i with
  | false =>
    clear hm
    go_enter Try.func15, Try.ntmps15
    go_wp2_with fail
    refine (ris_any R st i _ hV).mono ?_; rintro e w1 ⟨rfl, hv1, t1⟩
    go_wp2_with fail
    go_ret
    exact ⟨rfl, hv1, t1⟩
  | true =>
    obtain ⟨es, ev⟩ := has_val hh
    have HS := Lib.hid es
    by_cases a1 : off < 0 ∨ 128 < off
    · have hg : decide (off < 0) = true ∨ decide (off < 0) = false ∧ decide (128 < off) = true := by simp; omega
      clear es ev hm a1
      rcases hg with g1 | ⟨g1, g2⟩
      all_goals
        go_enter Try.func15, Try.ntmps15
        go_wp2_with fail
        refine (ris_any R st i _ hV).mono ?_; rintro e w1 ⟨rfl, hv1, t1⟩
        go_wp2_with fail
        go_ret
        exact ⟨rfl, hv1, t1⟩
    · have g1 : decide (off < 0) = false := decide_eq_false (by omega)
      have g2 : decide (128 < off) = false := decide_eq_false (by omega)
      have g3 : ((st.get 10 i).s.size : Int) < off := by
        apply Decidable.byContradiction; intro c
        exact hm ⟨hh, by omega, by omega, by rw [ev]; omega⟩
      have g4 : decide (((st.get 10 i).s.size : Int) < off) = true := decide_eq_true g3
      clear es ev hm a1 g3
      go_enter Try.func15, Try.ntmps15
      go_wp2_with fail
      refine (ris_any R st i _ hV).mono ?_; rintro e w1 ⟨rfl, hv1, t1⟩
      rw [HS.out] at hv1
      go_wp2_with fail
      refine (rikey_any i _).mono ?_; rintro e w2 ⟨rfl, t2⟩
      have hv2 := hv1.below t2
      have T2 := t1.trans (Turn.of_below t2 _)
      clear hv1 t1 t2 hV
      go_wp2_with fail
      refine (rvget_any R _ 10 i (by decide) _ hv2).mono ?_; rintro e w3 ⟨rfl, hv3, t3⟩
      rw [saw_twice] at hv3
      rw [get_saw']
      have T3 := T2.trans t3
      generalize hx : st.get 10 i = x at *
      clear hv2 T2 t3
      have b4 : Below w3.heap.size w3 (w3.alloc (Obj.cells x.cells 47)) := (Below.refl _ _).alloc (Nat.le_refl _) _
      have hv4 := hv3.below b4
      have T4 := T3.trans (Turn.of_below b4 _)
      clear hv3 T3 b4
      go_wp2_with fail
      go_ret
      exact ⟨rfl, by rw [HS.out]; exact hv4, T4⟩
set_option maxRecDepth 100000 in
set_option maxHeartbeats 4000000 in
theorem rwrite_yes (R : RLay) (st : VSt) (i off : Int) (d : ByteArray) (hm : iMay st i off) (hs : ((iVal st i).s.size : Int) ≤ 140737488351232) (hd : (d.size : Int) ≤ 140737488351232) (w : World) (hV : RViewAt w R st) :
    Calls Try.prog 15 #[.pointer (some ⟨R.q, 0, none⟩), .int .i64 i, .int .i64 off, .string d] w fun e w' => e = .returned (.int .i64 ((iPart d off).size : Int)) ∧ RViewAt w' R ((iSaw st i).put 10 i ((iVal st i).text (iOver (iVal st i).s off (iPart d off)))) ∧ Turn (fun k => k = R.r ∨ k = R.m) w w' := by
  have hz := zero_val
  obtain ⟨hh, o1, o2, o3⟩ := hm
  obtain ⟨es, ev⟩ := has_val hh
  have HS := Lib.hid es
  have HV := Lib.hid ev
  rw [ev] at o3 hs
  have g1 : decide (off < 0) = false := decide_eq_false (by omega)
  have g2 : decide (128 < off) = false := decide_eq_false (by omega)
  have e1 : wrap64 (128 - off) = 128 - off := wrap_small _ (by omega) (by omega)
  clear es ev
  go_enter Try.func15, Try.ntmps15
  go_wp2_with fail
  refine (ris_any R st i _ hV).mono ?_; rintro e w1 ⟨rfl, hv1, t1⟩
  rw [HS.out] at hv1
  go_wp2_with fail
  refine (rikey_any i _).mono ?_; rintro e w2 ⟨rfl, t2⟩
  have hv2 := hv1.below t2
  have T2 := t1.trans (Turn.of_below t2 _)
  clear hv1 t1 t2 hV
  go_wp2_with fail
  refine (rvget_any R _ 10 i (by decide) _ hv2).mono ?_; rintro e w3 ⟨rfl, hv3, t3⟩
  rw [saw_twice] at hv3
  rw [get_saw']
  have T3 := rmaps (T2.trans t3)
  generalize hx : st.get 10 i = x at *
  clear hv2 T2 t3
  have g3 : decide ((x.s.size : Int) < off) = false := decide_eq_false (by omega)
  go_upto_region 6 with fail
  have b4 : Below w3.heap.size w3 (w3.alloc (Obj.cells x.cells 47)) := (Below.refl _ _).alloc (Nat.le_refl _) _
  have r4 : blk (w3.alloc (Obj.cells x.cells 47)) w3.heap.size = some (.cells x.cells 47 (0, 0)) := heap_alloc_new _ _
  have hv4 := hv3.below b4
  have T4 := T3.trans (Turn.of_below b4 _)
  have hB0 := T3.size
  have hl4 := hv3.lts
  clear hv3 T3 b4
  generalize (w3.alloc (Obj.cells x.cells 47)) = W4 at *
  generalize w3.heap.size = B at *
  have c16 := cell_of_row _ _ 16 _ _ _ r4
  rw [cells_16] at c16
  have f16 := frozen_blk r4 16
  have m0 : 0 ≤ min (d.size : Int) (128 - off) := by omega
  have m1 : min (d.size : Int) (128 - off) ≤ (d.size : Int) := by omega
  go_upto_region 7 with fail
  rw [show d.extract 0 (min (d.size : Int) (128 - off)).toNat = iPart d off from rfl]
  have hDs := part_size d off (by omega)
  have HD := Lib.hid hDs
  have hD8 : ((iPart d off).size : Int) ≤ 128 := by omega
  clear hDs m0 m1
  generalize hDD : iPart d off = D at *
  have e2 : wrap64 (off + (D.size : Int)) = off + (D.size : Int) := wrap_small _ (by omega) (by omega)
  have m2 : 0 ≤ min (x.s.size : Int) (off + (D.size : Int)) := by omega
  have m3 : min (x.s.size : Int) (off + (D.size : Int)) ≤ (x.s.size : Int) := by omega
  have z1 : (((x.s.extract 0 off.toNat).size : Nat) : Int) + (D.size : Int) ≤ 9223372036854775807 := by
    rw [ByteArray.size_extract]; omega
  have z2 : ((((x.s.extract 0 off.toNat) ++ D).size : Nat) : Int) + (((x.s.extract (min (x.s.size : Int) (off + (D.size : Int))).toNat x.s.size).size : Nat) : Int) ≤ 9223372036854775807 := by
    rw [ByteArray.size_append, ByteArray.size_extract, ByteArray.size_extract]; omega
  go_upto_region 8 with fail
  go_region
  rw [show x.s.extract 0 off.toNat ++ D ++ x.s.extract (min (x.s.size : Int) (off + (D.size : Int))).toNat x.s.size = iOver x.s off D from rfl]
  have r5 := blk_setCell_same r4 16 (Value.string (iOver x.s off D))
  rw [cells_text] at r5
  have tl : Turn (fun k => B ≤ k) W4 (W4.setCell ⟨B, 16, none⟩ (Value.string (iOver x.s off D))).drew := ((Turn.refl _ W4).setCell (p := ⟨B, 16, none⟩) (Or.inl (show B ≤ B from Nat.le_refl _)) _).drew
  have hv6 := hv4.off tl hl4
  have T6 := T4.offS tl hB0
  have r6 : blk (W4.setCell ⟨B, 16, none⟩ (Value.string (iOver x.s off D))).drew B = some (.cells (x.text (iOver x.s off D)).cells 47 (0, 0)) := by rw [blk_drew]; exact r5
  clear r5 tl hv4 T4 r4 c16 f16
  generalize (W4.setCell ⟨B, 16, none⟩ (Value.string (iOver x.s off D))).drew = W6 at *
  generalize hy : x.text (iOver x.s off D) = y at *
  go_upto_region 9 with fail
  have b7 : Below W6.heap.size W6 W6.drew := below_drewN (Below.refl _ W6) 1
  have r7 : blk W6.drew B = some (.cells y.cells 47 (0, 0)) := r6
  have hv7 := hv6.below b7
  have T7 := T6.trans (Turn.of_below b7 _)
  clear b7 hv6 T6 r6
  refine wp_region_held_drew (S := fun W => blk W B = some (.cells y.cells 47 (0, 0))) (by kernel_rfl) r7 (fun hHeld => ?_)
  clear r7
  refine reg_take (i := 0) (v := ?_) rfl rfl (by kernel_rfl) (by kernel_rfl) (by kernel_rfl) (fun _ _ _ h => h) (by assumption) (by rfl) ?_ ?_
  rotate_left 1
  · (intro w hSw; (try dsimp only at hSw); go_simp; try with_reducible rfl)
  try simp only [List.setIfInBounds_toArray, List.set_cons_zero, List.set_cons_succ]
  refine reg_take (i := 1) (v := ?_) rfl rfl (by kernel_rfl) (by kernel_rfl) (by kernel_rfl) (fun _ _ _ h => h) (by assumption) (by rfl) ?_ ?_
  rotate_left 1
  · (intro w hSw; (try dsimp only at hSw); go_simp; try with_reducible rfl)
  try simp only [List.setIfInBounds_toArray, List.set_cons_zero, List.set_cons_succ]
  refine reg_take (i := 3) (v := (.agg y.cells)) rfl rfl (by kernel_rfl) (by kernel_rfl) (by kernel_rfl) (fun _ _ _ h => h) (by assumption) (by rfl) (fun W hW => loadV_blk hW) ?_
  try simp only [List.setIfInBounds_toArray, List.set_cons_zero, List.set_cons_succ]
  refine reg_step (i := 2) (by kernel_rfl) rfl (by rfl) (fun KC hKC => ?_)
  go_simp
  refine (rikey_any i _).mono ?_; rintro e w8 ⟨rfl, t8⟩
  have r8 := (t8.block B (lt_of_heap hHeld)).trans hHeld
  have hv8 := hv7.below t8
  have T8 := T7.trans (Turn.of_below t8 _)
  clear hHeld hv7 T7 t8
  refine hKC.out _ _ ?_ (fun hHeld => ?_)
  · exact r8
  clear hKC KC
  refine reg_step (i := 4) (by kernel_rfl) rfl (by rfl) (fun KC hKC => ?_)
  go_simp
  refine (rvput_at (R := R) (st := st.saw 10 i) (k := 10) (n := i) (x := y) (by decide) hv8).mono ?_; rintro e w9 ⟨⟨v9, rfl⟩, hv9, t9⟩
  have T9 := T8.trans t9
  have r9 : blk w9 B = some (.cells y.cells 47 (0, 0)) := by
    refine blk_of_turn t9 r8 (fun e => ?_)
    obtain ⟨_, _, q1, _⟩ := hv8.cr
    obtain ⟨_, _, q2, _⟩ := hv8.cm
    have n1 := cells_ne_map r8 q1
    have n2 := cells_ne_map r8 q2
    omega
  clear T8 t9 hHeld r8 hv8
  refine hKC.out _ _ ?_ (fun hHeld => ?_)
  · exact r9
  clear hKC KC
  refine wpAnyH_done (by kernel_rfl) ?_ _
  clear hHeld r9
  go_wp2_with fail
  go_ret
  exact ⟨ret_int (by rw [hDD]), by rw [HS.out, HV.out, hDD, hy]; exact hv9, T9⟩
theorem rwrite_any (R : RLay) (st : VSt) (i off : Int) (d : ByteArray) (hs : ((iVal st i).s.size : Int) ≤ 140737488351232) (hd : (d.size : Int) ≤ 140737488351232) (w : World) (hV : RViewAt w R st) :
    Calls Try.prog 15 #[.pointer (some ⟨R.q, 0, none⟩), .int .i64 i, .int .i64 off, .string d] w fun e w' => e = .returned (.int .i64 (iWrote st i off d)) ∧ RViewAt w' R (iWrite st i off d) ∧ Turn (fun k => k = R.r ∨ k = R.m) w w' := by
  unfold iWrite iWrote
  by_cases h : iMay st i off
  · rw [if_pos h, if_pos h]; exact rwrite_yes R st i off d h hs hd w hV
  · rw [if_neg h, if_neg h]; exact (rwrite_no R st i off d h w hV).mono fun e w' ⟨a, b, c⟩ => ⟨a, b, rmaps c⟩
end Go.Proofs.Ytfcgkjbifnhjjaa.St

namespace Go.Proofs.Ytfcgkjbifnhjjaa.St
open Go.RowKit
set_option linter.unusedVariables false

theorem get_saw (st : VSt) (a b k n : Int) : (st.saw a b).get k n = st.get k n := by
  unfold VSt.saw
  split
  · rfl
  · rfl
theorem get_put_same (st : VSt) (k n : Int) (x : Val) (h : 0 ≤ placeI k n) : (st.put k n x).get k n = x := by
  unfold VSt.put VSt.get
  rw [if_neg (by omega), if_neg (by omega)]
  simp [updV]
theorem get_put_other (st : VSt) (a b k n : Int) (x : Val) (h : ¬(k = a ∧ n = b)) : (st.put a b x).get k n = st.get k n := by
  unfold VSt.put VSt.get
  by_cases hp : placeI a b < 0
  · rw [if_pos hp]
  · rw [if_neg hp]
    by_cases hq : placeI k n < 0
    · rw [if_pos hq, if_pos hq]
    · rw [if_neg hq, if_neg hq]
      simp [updV, h]

theorem place9 : 0 ≤ placeI 9 0 := by decide
theorem place10 (i : Int) (h1 : 0 ≤ i) (h2 : i < 16) : 0 ≤ placeI 10 i := by
  obtain ⟨j, rfl⟩ := Int.eq_ofNat_of_zero_le h1
  have : j = 0 ∨ j = 1 ∨ j = 2 ∨ j = 3 ∨ j = 4 ∨ j = 5 ∨ j = 6 ∨ j = 7 ∨ j = 8 ∨ j = 9 ∨ j = 10 ∨ j = 11 ∨ j = 12 ∨ j = 13 ∨ j = 14 ∨ j = 15 := by omega
  rcases this with rfl | rfl | rfl | rfl | rfl | rfl | rfl | rfl | rfl | rfl | rfl | rfl | rfl | rfl | rfl | rfl <;> decide

theorem get_iSaw (st : VSt) (i k n : Int) : (iSaw st i).get k n = st.get k n := by
  unfold iSaw; split
  · rfl
  · exact get_saw _ _ _ _ _
theorem iVal_in (st : VSt) (i : Int) (h1 : 1 ≤ i) (h2 : i < 16) (h : (st.get 10 i).n 0 ≠ 0) : iVal st i = st.get 10 i := by
  unfold iVal iValIn; rw [if_neg (by omega), if_neg h]
theorem iHas_in (st : VSt) (i : Int) (h1 : 1 ≤ i) (h2 : i < 16) (h : (st.get 10 i).n 0 ≠ 0) : iHas st i = true := by
  unfold iHas; rw [if_neg (by omega)]; simpa using h
theorem iHas_none (st : VSt) (i : Int) (h1 : 1 ≤ i) (h2 : i < 16) (h : (st.get 10 i).n 0 = 0) : iHas st i = false := by
  unfold iHas; rw [if_neg (by omega)]; simpa using h
theorem iVal_none (st : VSt) (i : Int) (h1 : 1 ≤ i) (h2 : i < 16) (h : (st.get 10 i).n 0 = 0) : iVal st i = Val.zero := by
  unfold iVal iValIn; rw [if_neg (by omega), if_pos h]
theorem iHas_out (st : VSt) (i : Int) (h : i < 1 ∨ 16 ≤ i) : iHas st i = false := by
  unfold iHas; rw [if_pos h]
theorem iVal_out (st : VSt) (i : Int) (h : i < 1 ∨ 16 ≤ i) : iVal st i = Val.zero := by
  unfold iVal; rw [if_pos h]

/-- What a view holds behind a write. -/
theorem get_iWrite_other (st : VSt) (i off : Int) (d : ByteArray) (k n : Int) (h : ¬(k = 10 ∧ n = i)) : (iWrite st i off d).get k n = st.get k n := by
  unfold iWrite; split
  · rw [get_put_other _ _ _ _ _ _ h, get_iSaw]
  · exact get_iSaw _ _ _ _
theorem get_iWrite_same (st : VSt) (i off : Int) (d : ByteArray) (h1 : 1 ≤ i) (h2 : i < 16) (h : iMay st i off) : (iWrite st i off d).get 10 i = (iVal st i).text (iOver (iVal st i).s off (iPart d off)) := by
  unfold iWrite; rw [if_pos h, get_put_same _ _ _ _ (place10 i (by omega) h2)]
theorem get_iWrite_no (st : VSt) (i off : Int) (d : ByteArray) (h : ¬ iMay st i off) (k n : Int) : (iWrite st i off d).get k n = st.get k n := by
  unfold iWrite; rw [if_neg h, get_iSaw]

theorem over_size (s D : ByteArray) (off : Int) (h0 : 0 ≤ off) (h1 : off ≤ (s.size : Int)) : ((iOver s off D).size : Int) = max (s.size : Int) (off + D.size) := by
  unfold iOver
  rw [ByteArray.size_append, ByteArray.size_append, ByteArray.size_extract, ByteArray.size_extract]
  omega
theorem over_max (s d : ByteArray) (off : Int) (h0 : 0 ≤ off) (h1 : off ≤ (s.size : Int)) (h2 : off ≤ 128) (h3 : (s.size : Int) ≤ 128) : ((iOver s off (iPart d off)).size : Int) ≤ 128 := by
  rw [over_size _ _ _ h0 h1, part_size d off (by omega)]; omega

/-- An inode that is there, and what it holds. -/
def Holds (st : VSt) (i : Int) (t l h : Int) (s : ByteArray) : Prop := (st.get 10 i).n 0 = t ∧ (st.get 10 i).n 1 = l ∧ (st.get 10 i).n 2 = h ∧ (st.get 10 i).s = s

theorem holds_write {st : VSt} {i t l h : Int} {s : ByteArray} (H : Holds st i t l h s) (ht : t ≠ 0) (h1 : 1 ≤ i) (h2 : i < 16) (off : Int) (d : ByteArray) (g1 : 0 ≤ off) (g2 : off ≤ 128) (g3 : off ≤ (s.size : Int)) :
    Holds (iWrite st i off d) i t l h (iOver s off (iPart d off)) ∧ iWrote st i off d = (iPart d off).size := by
  obtain ⟨a, b, c, e⟩ := H
  have hv := iVal_in st i h1 h2 (by rw [a]; exact ht)
  have hm : iMay st i off := ⟨iHas_in st i h1 h2 (by rw [a]; exact ht), g1, g2, by rw [hv, e]; exact g3⟩
  have hg := get_iWrite_same st i off d h1 h2 hm
  refine ⟨?_, by unfold iWrote; rw [if_pos hm]⟩
  unfold Holds
  rw [hg, hv]
  exact ⟨a, b, c, by simp [Val.text, e]⟩
theorem holds_write_no {st : VSt} {i t l h : Int} {s : ByteArray} (H : Holds st i t l h s) (ht : t ≠ 0) (h1 : 1 ≤ i) (h2 : i < 16) (off : Int) (d : ByteArray) (g : off < 0 ∨ 128 < off ∨ (s.size : Int) < off) :
    Holds (iWrite st i off d) i t l h s ∧ iWrote st i off d = -1 := by
  obtain ⟨a, b, c, e⟩ := H
  have hv := iVal_in st i h1 h2 (by rw [a]; exact ht)
  have hm : ¬ iMay st i off := by
    rintro ⟨_, q1, q2, q3⟩
    rw [hv, e] at q3
    omega
  refine ⟨?_, by unfold iWrote; rw [if_neg hm]⟩
  unfold Holds
  rw [get_iWrite_no st i off d hm]
  exact ⟨a, b, c, e⟩
theorem holds_write_other {st : VSt} {i t l h : Int} {s : ByteArray} (H : Holds st i t l h s) (j off : Int) (d : ByteArray) (hj : j ≠ i) : Holds (iWrite st j off d) i t l h s := by
  unfold Holds
  rw [get_iWrite_other st j off d 10 i (by omega)]
  exact H
theorem holds_saw {st : VSt} {i t l h : Int} {s : ByteArray} (H : Holds st i t l h s) (j : Int) : Holds (iSaw st j) i t l h s := by
  unfold Holds; rw [get_iSaw]; exact H
theorem holds_val {st : VSt} {i t l h : Int} {s : ByteArray} (H : Holds st i t l h s) (ht : t ≠ 0) (h1 : 1 ≤ i) (h2 : i < 16) : (iVal st i).s = s ∧ (iVal st i).n 0 = t ∧ (iVal st i).n 1 = l ∧ (iVal st i).n 2 = h ∧ iHas st i = true := by
  obtain ⟨a, b, c, e⟩ := H
  rw [iVal_in st i h1 h2 (by rw [a]; exact ht)]
  exact ⟨e, a, b, c, iHas_in st i h1 h2 (by rw [a]; exact ht)⟩
theorem holds_read {st : VSt} {i t l h : Int} {s : ByteArray} (H : Holds st i t l h s) (ht : t ≠ 0) (h1 : 1 ≤ i) (h2 : i < 16) (off n : Int) :
    iRead st i off n = if off < 0 ∨ (s.size : Int) ≤ off ∨ n < 1 then ByteArray.empty else s.extract off.toNat (off + min n (s.size - off)).toNat := by
  unfold iRead; rw [(holds_val H ht h1 h2).1]

/-- What is read of a text. -/
def readB (s : ByteArray) (off n : Int) : ByteArray := if off < 0 ∨ (s.size : Int) ≤ off ∨ n < 1 then ByteArray.empty else s.extract off.toNat (off + min n (s.size - off)).toNat

theorem hsize (L : Lay) {st : VSt} {i t l h : Int} {s : ByteArray} (H : Holds st i t l h s) (ht : t ≠ 0) (h1 : 1 ≤ i) (h2 : i < 16) (w : World) (hV : ViewAt w L st) :
    Calls Try.prog 22 #[.pointer (some ⟨L.v, 0, none⟩), .int .i64 i] w fun e w' => e = .returned (.int .i64 s.size) ∧ ViewAt w' L (iSaw st i) ∧ Turn (· = L.r) w w' := by
  have h := isize_any L st i w hV
  rw [(holds_val H ht h1 h2).1] at h
  exact h
theorem hlinks (L : Lay) {st : VSt} {i t l h : Int} {s : ByteArray} (H : Holds st i t l h s) (ht : t ≠ 0) (h1 : 1 ≤ i) (h2 : i < 16) (w : World) (hV : ViewAt w L st) :
    Calls Try.prog 21 #[.pointer (some ⟨L.v, 0, none⟩), .int .i64 i] w fun e w' => e = .returned (.int .i64 l) ∧ ViewAt w' L (iSaw st i) ∧ Turn (· = L.r) w w' := by
  have h := ilinks_any L st i w hV
  rw [(holds_val H ht h1 h2).2.2.1] at h
  exact h
theorem htype (L : Lay) {st : VSt} {i t l h : Int} {s : ByteArray} (H : Holds st i t l h s) (ht : t ≠ 0) (h1 : 1 ≤ i) (h2 : i < 16) (w : World) (hV : ViewAt w L st) :
    Calls Try.prog 20 #[.pointer (some ⟨L.v, 0, none⟩), .int .i64 i] w fun e w' => e = .returned (.int .i64 t) ∧ ViewAt w' L (iSaw st i) ∧ Turn (· = L.r) w w' := by
  have h := itype_any L st i w hV
  rw [(holds_val H ht h1 h2).2.1] at h
  exact h
theorem hread (L : Lay) {st : VSt} {i t l h : Int} {s : ByteArray} (H : Holds st i t l h s) (ht : t ≠ 0) (h1 : 1 ≤ i) (h2 : i < 16) (hs : (s.size : Int) ≤ 140737488351232) (off n : Int) (w : World) (hV : ViewAt w L st) :
    Calls Try.prog 10 #[.pointer (some ⟨L.v, 0, none⟩), .int .i64 i, .int .i64 off, .int .i64 n] w fun e w' => e = .returned (.string (readB s off n)) ∧ ViewAt w' L (iSaw st i) ∧ Turn (· = L.r) w w' := by
  have h := iread_any L st i off n (by rw [(holds_val H ht h1 h2).1]; exact hs) w hV
  rw [holds_read H ht h1 h2] at h
  exact h
theorem readB_all (s : ByteArray) (n : Int) (h : (s.size : Int) ≤ n) : readB s 0 n = s := by
  unfold readB
  split
  · rename_i hc
    have : s.size = 0 := by omega
    apply ByteArray.ext
    apply Array.ext
    · simpa using this.symm
    · intro i a b; simp at a
  · rename_i hc
    rw [show (0 + min n ((s.size : Int) - 0)).toNat = s.size by omega]
    exact ByteArray.extract_zero_size
theorem extract_none (s : ByteArray) (a b : Nat) (h : b ≤ a) : s.extract a b = ByteArray.empty := by
  apply ByteArray.ext
  apply Array.ext
  · have : (s.extract a b).size = 0 := by rw [ByteArray.size_extract]; omega
    simpa using this
  · intro i p q; simp at q
theorem readB_mid (s : ByteArray) (off n : Int) (h0 : 0 ≤ off) (h1 : off < (s.size : Int)) (h2 : 0 ≤ n) (h3 : off + n < (s.size : Int)) : readB s off n = s.extract off.toNat (off + n).toNat := by
  unfold readB
  by_cases hn : n < 1
  · rw [if_pos (Or.inr (Or.inr hn)), extract_none _ _ _ (by omega)]
  · rw [if_neg (by omega), show min n ((s.size : Int) - off) = n by omega]
theorem readB_end (s : ByteArray) (off n : Int) (h0 : 0 ≤ off) (h1 : off < (s.size : Int)) (h3 : (s.size : Int) ≤ off + n) : readB s off n = s.extract off.toNat s.size := by
  unfold readB
  rw [if_neg (by omega), show (off + min n ((s.size : Int) - off)).toNat = s.size by omega]
theorem readB_out (s : ByteArray) (off n : Int) (h1 : (s.size : Int) ≤ off) : readB s off n = ⟨#[]⟩ := by
  unfold readB
  rw [if_pos (Or.inr (Or.inl h1))]
  rfl
end Go.Proofs.Ytfcgkjbifnhjjaa.St

namespace Go.Proofs.Ytfcgkjbifnhjjaa.St
open Go.RowKit
set_option linter.unusedVariables false
/-- All texts are of bounded size. -/
structure Sz (st : VSt) : Prop where
  b : ∀ p, (st.base p).s.size ≤ 200
  w : ∀ k n x, st.wr k n = some x → x.s.size ≤ 200
theorem Sz.get {st : VSt} (h : Sz st) (k n : Int) : (st.get k n).s.size ≤ 200 := by
  unfold VSt.get
  split
  · simp [Val.zero]
  · cases hw : st.wr k n with
    | none => exact h.b _
    | some x => exact h.w k n x hw
theorem Sz.saw {st : VSt} (h : Sz st) (k n : Int) : Sz (st.saw k n) := by
  unfold VSt.saw
  split
  · exact h
  · exact ⟨h.b, h.w⟩
theorem Sz.put {st : VSt} (h : Sz st) (k n : Int) (x : Val) (hx : x.s.size ≤ 200) : Sz (st.put k n x) := by
  unfold VSt.put
  split
  · exact h
  · refine ⟨h.b, fun a b y hy => ?_⟩
    unfold updV at hy
    simp only at hy
    split at hy
    · injection hy with hy; subst hy; exact hx
    · exact h.w a b y hy
theorem Sz.fresh {base : Nat → Val} (h : ∀ p, (base p).s.size ≤ 200) : Sz (VSt.fresh base) := ⟨h, fun k n x hx => by cases hx⟩
theorem putAll_le : ∀ (l : List Wr) (base : Nat → Val), (∀ p, (base p).s.size ≤ 200) → (∀ y ∈ l, y.2.s.size ≤ 200) → ∀ p, (putAll base l p).s.size ≤ 200
  | [], base, h, _ => h
  | y :: l, base, h, hl => putAll_le l _ (putS_le h _ _ _ (hl y (List.mem_cons_self ..))) fun z hz => hl z (List.mem_cons_of_mem _ hz)
theorem Sz.all {st : VSt} (h : Sz st) : Sz (VSt.fresh (putAll st.base (wrL st))) := Sz.fresh (putAll_le _ _ h.b fun y hy => by
  unfold wrL at hy
  obtain ⟨p, hp, rfl⟩ := List.mem_map.1 hy
  have := ((plF_mem _ _).1 hp).2.2
  obtain ⟨x, hx⟩ := Option.isSome_iff_exists.1 this
  simp only [hx, Option.getD_some]
  exact h.w _ _ _ hx)
/-- What a state must be. -/
structure Ok (st : VSt) : Prop where
  v : VOk st
  z : Sz st
theorem Ok.saw {st : VSt} (h : Ok st) (k n : Int) : Ok (st.saw k n) := ⟨h.v.saw k n, h.z.saw k n⟩
theorem Ok.put {st : VSt} (h : Ok st) (k n : Int) (x : Val) (hx : x.s.size ≤ 200) : Ok (st.put k n x) := ⟨h.v.put k n x, h.z.put k n x hx⟩
theorem Ok.all {st : VSt} (h : Ok st) : Ok (VSt.fresh (putAll st.base (wrL st))) := ⟨VOk.fresh _, h.z.all⟩
theorem Ok.iSaw {st : VSt} (h : Ok st) (i : Int) : Ok (iSaw st i) := by
  unfold St.iSaw
  split
  · exact h
  · exact h.saw _ _
theorem zero_le : Val.zero.s.size ≤ 200 := by simp [Val.zero]
theorem set_le {x : Val} (h : x.s.size ≤ 200) (j : Nat) (v : Int) : (x.set j v).s.size ≤ 200 := h
theorem Ok.val {st : VSt} (h : Ok st) (i : Int) : (iVal st i).s.size ≤ 200 := by
  unfold iVal iValIn
  split
  · exact zero_le
  · split
    · exact zero_le
    · exact h.z.get _ _
theorem Ok.val' {st : VSt} (h : Ok st) (i : Int) : ((iVal st i).s.size : Int) ≤ 140737488351232 := by have := h.val i; omega
theorem Ok.iAlloc {st : VSt} (h : Ok st) (t : Int) : Ok (iAlloc st t) := by
  unfold St.iAlloc
  split
  · unfold iTake
    exact ((h.saw _ _).put _ _ _ (set_le (h.z.get _ _) _ _)).put _ _ _ (set_le zero_le _ _)
  · exact h.saw _ _
theorem Ok.iChange {st : VSt} (h : Ok st) (i l k : Int) : Ok (iChange st i l k) := by
  unfold St.iChange
  split
  · exact h.iSaw i
  · split
    · exact (((h.iSaw i).saw _ _).put _ _ _ (set_le ((h.iSaw i).z.get _ _) _ _)).put _ _ _ zero_le
    · exact (h.iSaw i).put _ _ _ (set_le (set_le (h.val i) _ _) _ _)
theorem Ok.iWrite {st : VSt} (h : Ok st) (i off : Int) (d : ByteArray) : Ok (iWrite st i off d) := by
  unfold St.iWrite
  split
  · rename_i hm
    obtain ⟨_, h0, h1, h2⟩ := hm
    refine (h.iSaw i).put _ _ _ ?_
    show (iOver (iVal st i).s off (iPart d off)).size ≤ 200
    have e1 := over_size (iVal st i).s (iPart d off) off h0 h2
    have e2 := part_size d off (by omega)
    have := h.val i
    omega
  · exact h.iSaw i
theorem iSaw_twice (st : VSt) (i : Int) : iSaw (iSaw st i) i = iSaw st i := by
  unfold iSaw
  split
  · rfl
  · exact saw_twice _ _ _
theorem iHas_saw (st : VSt) (i : Int) : iHas (iSaw st i) i = iHas st i := by
  unfold iHas
  rw [get_iSaw]
theorem iVal_saw (st : VSt) (i : Int) : iVal (iSaw st i) i = iVal st i := by
  unfold iVal
  rw [get_iSaw]
theorem has_ne (st : VSt) (i : Int) : ((iVal st i).n 0 != 0) = iHas st i := by
  unfold iVal iHas iValIn
  split
  · rfl
  · by_cases e : (st.get 10 i).n 0 = 0
    · rw [if_pos e, e]; rfl
    · rw [if_neg e]; rfl
end Go.Proofs.Ytfcgkjbifnhjjaa.St

namespace Go.Proofs.Ytfcgkjbifnhjjaa.St
open Go.RowKit
set_option linter.unusedVariables false
attribute [local go_sem] blk_alloc_at blk_alloc_past blk_drew blk_drewN blk_setB_same blk_setB_other blk_setRow_other setRow_alloc_at setRow_alloc_past setRow_drewN setRow_drew setB_size setB_cell setB_frozen setB_alloc_past setB_drewN setB_drew run_loadV loadOr_cells run_storeV storeOr_cells cells_size ones_cells
attribute [local go_sem ↓] execOp_loadV execOp_storeV
attribute [local irreducible] Int.lt Int.le
section
variable {P : Program} {ops : Array Oper} {Q : Exit → Act → World → Prop} {md : Region.Mode} {S : World → Prop}
/-- The one operation that may come up is a store, by its run. -/
theorem reg_store {i : Nat} {oi : Oper} {fuel : Nat} {listed : Array Bool} {a : Act} {w w' : World} (hr : Region.ready md ops listed = [i]) (hi : ops[i]? = some oi) (hd : oi.dst = none) (hw : Region.wanted oi (yielded ops a.tmps) = true)
    (hrun : (execOp a.eval oi).run P w = .ok .skip w') (hS : S w') (h : S w' → wpAnyH P md ops Q S fuel (listed.setIfInBounds i true) a w') : wpAnyH P md ops Q S (fuel + 1) listed a w := by
  refine reg_step hr hi hw fun K' hK => ?_
  simp only [Oper.wp, hrun, Oper.upon]
  rw [hd]
  exact hK.out _ _ hS h
end
/-- An ask kept in a block of the call's own. -/
abbrev AQ (G : Nat) (z : Nat → Int) (W : World) : Prop := blk W G = some (.cells #[.int .i64 (z 0), .int .i64 (z 1), .int .i64 (z 2), .int .i64 (z 3), .int .i64 (z 4)] 27 (0, 0))
abbrev AC (G : Nat) (z : Nat → Int) (W : World) : Prop := W.cell? ⟨G, 0, none⟩ = some (.int .i64 (z 0)) ∧ W.cell? ⟨G, 1, none⟩ = some (.int .i64 (z 1)) ∧ W.cell? ⟨G, 2, none⟩ = some (.int .i64 (z 2)) ∧ W.cell? ⟨G, 3, none⟩ = some (.int .i64 (z 3)) ∧ W.cell? ⟨G, 4, none⟩ = some (.int .i64 (z 4))
theorem ac_of {W : World} {G : Nat} {z : Nat → Int} (h : AQ G z W) : AC G z W := ⟨cell_of_row W G 0 _ _ _ h, cell_of_row W G 1 _ _ _ h, cell_of_row W G 2 _ _ _ h, cell_of_row W G 3 _ _ _ h, cell_of_row W G 4 _ _ _ h⟩
/-- A value's cells that a region reads. -/
abbrev XC (X : Nat) (x : Val) (W : World) : Prop := W.cell? ⟨X, 0, none⟩ = some (.int .i64 (x.n 0)) ∧ W.cell? ⟨X, 1, none⟩ = some (.int .i64 (x.n 1)) ∧ W.cell? ⟨X, 16, none⟩ = some (.string x.s)
theorem xc_of {W : World} {X : Nat} {x : Val} (h : blk W X = some (.cells x.cells 47 (0, 0))) : XC X x W := ⟨cell_of_row W X 0 _ _ _ h, cell_of_row W X 1 _ _ _ h, cell_of_row W X 16 _ _ _ h⟩
/-- What the loop keeps. -/
def IRel (w : World) (t : Nat) (W : World) : Prop := ∃ st L R, Dbl w t L R st st W ∧ Ok st
section
variable {w : World} {t : Nat} {L : Lay} {R : RLay} {a b : VSt} {W W' : World} {G : Nat} {z : Nat → Int}
theorem aq_below (h : AQ G z W) (hb : Below W.heap.size W W') : AQ G z W' := (hb.block G (lt_of_heap h)).trans h
theorem Dbl.aqL (H : Dbl w t L R a b W) (h : AQ G z W) {S : Nat → Prop} (T : Turn S W W') (hS : ∀ i, S i → i = L.l ∨ i = L.r ∨ i = L.m) : AQ G z W' :=
  blk_of_turn T h (fun q => by have := hS G q; have := H.p.far h (by decide); omega)
theorem Dbl.aqR (H : Dbl w t L R a b W) (h : AQ G z W) {S : Nat → Prop} (T : Turn S W W') (hS : ∀ i, S i → i = R.s ∨ i = R.r ∨ i = R.m) : AQ G z W' :=
  blk_of_turn T h (fun q => by have := hS G q; have := H.p.far h (by decide); omega)
end
set_option maxRecDepth 100000 in
set_option maxHeartbeats 4000000 in
theorem inodePlays_walk (a0 : Option Addr) (len0 cap0 : Nat) (z0 : Nat → Wr) (a1 : Option Addr) (len1 cap1 : Nat) (z1 : Nat → Nat → Int) (w : World) (w0 : IsWrites w a0 len0 cap0 z0) (w1 : IsRows 5 w a1 len1 cap1 z1) :
    Calls Try.prog 3 #[.slice a0 len0 cap0, .slice a1 len1 cap1] w fun e w' => e = .returned (.bool true) ∧ Below w.heap.size w w' := by
  have hz := zero_val
  go_enter Try.func3, Try.ntmps3
  go_wp2_with fail
  refine (dnew_any a0 len0 cap0 z0 w w0).mono ?_; rintro e w2 ⟨t, L, R, base, rfl, H, hzb⟩
  have O : Ok (VSt.fresh base) := ⟨VOk.fresh _, Sz.fresh hzb⟩
  have I0 : IRel w t w2 := ⟨_, L, R, H, O⟩
  clear H O hzb w0
  go_upto_block 0 with fail
  go_cut [4, 6] from 19 to 223 (fun rt _ wx => rt = .bool false ∧ IRel w t wx)
  case first =>
    go_wp2_with fail
    go_loopw [4, 6] (fun rt i wr => rt = .bool false ∧ ∃ j : Nat, j ≤ len1 ∧ i = .int .i64 (j : Int) ∧ IRel w t wr) (fun _ i _ => len1 - (intOf i).toNat)
    case atStart => exact ⟨rfl, 0, by omega, rfl, I0⟩
    case round =>
      as_aux_lemma =>
        clear I0
        obtain ⟨rfl, j, hj, rfl, st, L, R, H, O⟩ := hrel
        have j0 : (0 : Int) ≤ (j : Int) := by omega
        by_cases hlt : j < len1
        · have l1 : (j : Int) < (len1 : Int) := by omega
          by_cases h25 : (j : Int) < 25
          · rcases w1 with ⟨_, q, _⟩ | ⟨x, rfl, hlc, hc, hx⟩
            · omega
            obtain ⟨hf, hf0⟩ := rows_field hx H.p.b j hlt
            have y0 := hf0 (by decide)
            have y1 := hf 1 (by decide) (by decide)
            have y2 := hf 2 (by decide) (by decide)
            have y3 := hf 3 (by decide) (by decide)
            have y4 := hf 4 (by decide) (by decide)
            clear hx hf hf0
            generalize z1 j = z at *
            go_upto_region 8 with fail
            have bA : Below wr.heap.size wr (wr.alloc (Obj.cells #[.int .i64 (z 0), .int .i64 (z 1), .int .i64 (z 2), .int .i64 (z 3), .int .i64 (z 4)] 27)) := (Below.refl _ _).alloc (Nat.le_refl _) _
            have hq : AQ wr.heap.size z (wr.alloc (Obj.cells #[.int .i64 (z 0), .int .i64 (z 1), .int .i64 (z 2), .int .i64 (z 3), .int .i64 (z 4)] 27)) := heap_alloc_new _ _
            have H0 := H.below bA
            clear bA H y0 y1 y2 y3 y4
            generalize wr.alloc (Obj.cells #[.int .i64 (z 0), .int .i64 (z 1), .int .i64 (z 2), .int .i64 (z 3), .int .i64 (z 4)] 27) = W1 at *
            generalize wr.heap.size = G at *
            go_upto_region 9 with fail
            have c0 := (ac_of hq).1
            go_upto_block 2 with fail
            clear c0
            go_cut [8] from 32 to 147 (fun ok wx => ok = .bool true ∧ IRel w t wx ∧ AQ G z wx)
            case first =>
              by_cases k1 : z 0 = 1
              ·
                as_aux_lemma =>
                  go_upto_region 11 with fail
                  have b0 : Below W1.heap.size W1 W1.drew := below_drewN (Below.refl _ W1) 1
                  have H1 := H0.below b0
                  have q1 := aq_below hq b0
                  clear b0 H0 hq
                  refine wp_region_held_drew (S := fun W => TC t L.s L.v R.d R.q W ∧ AC G z W) (by kernel_rfl) ⟨H1.tc, ac_of q1⟩ (fun hHeld => ?_)
                  refine reg_take (i := 0) (v := ?_) rfl rfl (by kernel_rfl) (by kernel_rfl) (by kernel_rfl) (fun _ _ _ h => h) (by assumption) (by rfl) ?_ ?_
                  rotate_left 1
                  · (intro w hSw; (try dsimp only at hSw); go_simp; try with_reducible rfl)
                  try simp only [List.setIfInBounds_toArray, List.set_cons_zero, List.set_cons_succ]
                  refine reg_take (i := 1) (v := ?_) rfl rfl (by kernel_rfl) (by kernel_rfl) (by kernel_rfl) (fun _ _ _ h => h) (by assumption) (by rfl) ?_ ?_
                  rotate_left 1
                  · (intro w hSw; (try dsimp only at hSw); go_simp; try with_reducible rfl)
                  try simp only [List.setIfInBounds_toArray, List.set_cons_zero, List.set_cons_succ]
                  refine reg_take (i := 2) (v := ?_) rfl rfl (by kernel_rfl) (by kernel_rfl) (by kernel_rfl) (fun _ _ _ h => h) (by assumption) (by rfl) ?_ ?_
                  rotate_left 1
                  · (intro w hSw; (try dsimp only at hSw); go_simp; try with_reducible rfl)
                  try simp only [List.setIfInBounds_toArray, List.set_cons_zero, List.set_cons_succ]
                  refine reg_take (i := 3) (v := ?_) rfl rfl (by kernel_rfl) (by kernel_rfl) (by kernel_rfl) (fun _ _ _ h => h) (by assumption) (by rfl) ?_ ?_
                  rotate_left 1
                  · (intro w hSw; (try dsimp only at hSw); go_simp; try with_reducible rfl)
                  try simp only [List.setIfInBounds_toArray, List.set_cons_zero, List.set_cons_succ]
                  refine reg_take (i := 4) (v := ?_) rfl rfl (by kernel_rfl) (by kernel_rfl) (by kernel_rfl) (fun _ _ _ h => h) (by assumption) (by rfl) ?_ ?_
                  rotate_left 1
                  · (intro w hSw; (try dsimp only at hSw); go_simp; try with_reducible rfl)
                  try simp only [List.setIfInBounds_toArray, List.set_cons_zero, List.set_cons_succ]
                  refine reg_take (i := 5) (v := ?_) rfl rfl (by kernel_rfl) (by kernel_rfl) (by kernel_rfl) (fun _ _ _ h => h) (by assumption) (by rfl) ?_ ?_
                  rotate_left 1
                  · (intro w hSw; (try dsimp only at hSw); go_simp; try with_reducible rfl)
                  try simp only [List.setIfInBounds_toArray, List.set_cons_zero, List.set_cons_succ]
                  refine reg_step (i := 6) (by kernel_rfl) rfl (by rfl) (fun KC hKC => ?_)
                  go_simp
                  refine (ialloc_any L st (z 2) _ H1.p.v).mono ?_; rintro e w2 ⟨rfl, hv2, t2⟩
                  have H2 := H1.left hv2 t2 (fun i q => by omega)
                  have q2 := H1.aqL q1 t2 (fun i q => by omega)
                  clear H1 q1 hv2 t2 hHeld
                  refine hKC.out _ _ ?_ (fun hHeld => ?_)
                  · exact ⟨H2.tc, ac_of q2⟩
                  clear hKC KC
                  refine reg_take (i := 7) (v := ?_) rfl rfl (by kernel_rfl) (by kernel_rfl) (by kernel_rfl) (fun _ _ _ h => h) (by assumption) (by rfl) ?_ ?_
                  rotate_left 1
                  · (intro w hSw; (try dsimp only at hSw); go_simp; try with_reducible rfl)
                  try simp only [List.setIfInBounds_toArray, List.set_cons_zero, List.set_cons_succ]
                  refine reg_take (i := 8) (v := ?_) rfl rfl (by kernel_rfl) (by kernel_rfl) (by kernel_rfl) (fun _ _ _ h => h) (by assumption) (by rfl) ?_ ?_
                  rotate_left 1
                  · (intro w hSw; (try dsimp only at hSw); go_simp; try with_reducible rfl)
                  try simp only [List.setIfInBounds_toArray, List.set_cons_zero, List.set_cons_succ]
                  refine reg_take (i := 9) (v := ?_) rfl rfl (by kernel_rfl) (by kernel_rfl) (by kernel_rfl) (fun _ _ _ h => h) (by assumption) (by rfl) ?_ ?_
                  rotate_left 1
                  · (intro w hSw; (try dsimp only at hSw); go_simp; try with_reducible rfl)
                  try simp only [List.setIfInBounds_toArray, List.set_cons_zero, List.set_cons_succ]
                  refine reg_take (i := 10) (v := ?_) rfl rfl (by kernel_rfl) (by kernel_rfl) (by kernel_rfl) (fun _ _ _ h => h) (by assumption) (by rfl) ?_ ?_
                  rotate_left 1
                  · (intro w hSw; (try dsimp only at hSw); go_simp; try with_reducible rfl)
                  try simp only [List.setIfInBounds_toArray, List.set_cons_zero, List.set_cons_succ]
                  refine reg_take (i := 11) (v := ?_) rfl rfl (by kernel_rfl) (by kernel_rfl) (by kernel_rfl) (fun _ _ _ h => h) (by assumption) (by rfl) ?_ ?_
                  rotate_left 1
                  · (intro w hSw; (try dsimp only at hSw); go_simp; try with_reducible rfl)
                  try simp only [List.setIfInBounds_toArray, List.set_cons_zero, List.set_cons_succ]
                  refine wpAnyH_done (by kernel_rfl) ?_ _
                  clear hHeld
                  go_upto_region 12 with fail
                  have b0 : Below w2.heap.size w2 w2.drew := below_drewN (Below.refl _ w2) 1
                  have H3 := H2.below b0
                  have q3 := aq_below q2 b0
                  clear b0 H2 q2
                  refine wp_region_held_drew (S := fun W => TC t L.s L.v R.d R.q W ∧ AC G z W) (by kernel_rfl) ⟨H3.tc, ac_of q3⟩ (fun hHeld => ?_)
                  refine reg_take (i := 0) (v := ?_) rfl rfl (by kernel_rfl) (by kernel_rfl) (by kernel_rfl) (fun _ _ _ h => h) (by assumption) (by rfl) ?_ ?_
                  rotate_left 1
                  · (intro w hSw; (try dsimp only at hSw); go_simp; try with_reducible rfl)
                  try simp only [List.setIfInBounds_toArray, List.set_cons_zero, List.set_cons_succ]
                  refine reg_take (i := 1) (v := ?_) rfl rfl (by kernel_rfl) (by kernel_rfl) (by kernel_rfl) (fun _ _ _ h => h) (by assumption) (by rfl) ?_ ?_
                  rotate_left 1
                  · (intro w hSw; (try dsimp only at hSw); go_simp; try with_reducible rfl)
                  try simp only [List.setIfInBounds_toArray, List.set_cons_zero, List.set_cons_succ]
                  refine reg_take (i := 2) (v := ?_) rfl rfl (by kernel_rfl) (by kernel_rfl) (by kernel_rfl) (fun _ _ _ h => h) (by assumption) (by rfl) ?_ ?_
                  rotate_left 1
                  · (intro w hSw; (try dsimp only at hSw); go_simp; try with_reducible rfl)
                  try simp only [List.setIfInBounds_toArray, List.set_cons_zero, List.set_cons_succ]
                  refine reg_take (i := 3) (v := ?_) rfl rfl (by kernel_rfl) (by kernel_rfl) (by kernel_rfl) (fun _ _ _ h => h) (by assumption) (by rfl) ?_ ?_
                  rotate_left 1
                  · (intro w hSw; (try dsimp only at hSw); go_simp; try with_reducible rfl)
                  try simp only [List.setIfInBounds_toArray, List.set_cons_zero, List.set_cons_succ]
                  refine reg_take (i := 4) (v := ?_) rfl rfl (by kernel_rfl) (by kernel_rfl) (by kernel_rfl) (fun _ _ _ h => h) (by assumption) (by rfl) ?_ ?_
                  rotate_left 1
                  · (intro w hSw; (try dsimp only at hSw); go_simp; try with_reducible rfl)
                  try simp only [List.setIfInBounds_toArray, List.set_cons_zero, List.set_cons_succ]
                  refine reg_take (i := 5) (v := ?_) rfl rfl (by kernel_rfl) (by kernel_rfl) (by kernel_rfl) (fun _ _ _ h => h) (by assumption) (by rfl) ?_ ?_
                  rotate_left 1
                  · (intro w hSw; (try dsimp only at hSw); go_simp; try with_reducible rfl)
                  try simp only [List.setIfInBounds_toArray, List.set_cons_zero, List.set_cons_succ]
                  refine reg_step (i := 6) (by kernel_rfl) rfl (by rfl) (fun KC hKC => ?_)
                  go_simp
                  refine (ralloc_any R st (z 2) _ H3.p.r).mono ?_; rintro e w4 ⟨rfl, hv4, t4⟩
                  have H4 := H3.right hv4 t4 (fun i q => by omega)
                  have q4 := H3.aqR q3 t4 (fun i q => by omega)
                  clear H3 q3 hv4 t4 hHeld
                  refine hKC.out _ _ ?_ (fun hHeld => ?_)
                  · exact ⟨H4.tc, ac_of q4⟩
                  clear hKC KC
                  refine reg_take (i := 7) (v := ?_) rfl rfl (by kernel_rfl) (by kernel_rfl) (by kernel_rfl) (fun _ _ _ h => h) (by assumption) (by rfl) ?_ ?_
                  rotate_left 1
                  · (intro w hSw; (try dsimp only at hSw); go_simp; try with_reducible rfl)
                  try simp only [List.setIfInBounds_toArray, List.set_cons_zero, List.set_cons_succ]
                  refine reg_take (i := 8) (v := ?_) rfl rfl (by kernel_rfl) (by kernel_rfl) (by kernel_rfl) (fun _ _ _ h => h) (by assumption) (by rfl) ?_ ?_
                  rotate_left 1
                  · (intro w hSw; (try dsimp only at hSw); go_simp; try with_reducible rfl)
                  try simp only [List.setIfInBounds_toArray, List.set_cons_zero, List.set_cons_succ]
                  refine reg_take (i := 9) (v := ?_) rfl rfl (by kernel_rfl) (by kernel_rfl) (by kernel_rfl) (fun _ _ _ h => h) (by assumption) (by rfl) ?_ ?_
                  rotate_left 1
                  · (intro w hSw; (try dsimp only at hSw); go_simp; try with_reducible rfl)
                  try simp only [List.setIfInBounds_toArray, List.set_cons_zero, List.set_cons_succ]
                  refine reg_take (i := 10) (v := ?_) rfl rfl (by kernel_rfl) (by kernel_rfl) (by kernel_rfl) (fun _ _ _ h => h) (by assumption) (by rfl) ?_ ?_
                  rotate_left 1
                  · (intro w hSw; (try dsimp only at hSw); go_simp; try with_reducible rfl)
                  try simp only [List.setIfInBounds_toArray, List.set_cons_zero, List.set_cons_succ]
                  refine reg_take (i := 11) (v := ?_) rfl rfl (by kernel_rfl) (by kernel_rfl) (by kernel_rfl) (fun _ _ _ h => h) (by assumption) (by rfl) ?_ ?_
                  rotate_left 1
                  · (intro w hSw; (try dsimp only at hSw); go_simp; try with_reducible rfl)
                  try simp only [List.setIfInBounds_toArray, List.set_cons_zero, List.set_cons_succ]
                  refine wpAnyH_done (by kernel_rfl) ?_ _
                  clear hHeld
                  go_wp2_with fail
                  go_meet
                  case rel => exact ⟨by simp, ⟨_, L, R, H4, O.iAlloc _⟩, q4⟩
              by_cases k2 : z 0 = 2
              ·
                as_aux_lemma =>
                  go_upto_region 15 with fail
                  have b0 : Below W1.heap.size W1 W1.drew := below_drewN (Below.refl _ W1) 1
                  have H1 := H0.below b0
                  have q1 := aq_below hq b0
                  clear b0 H0 hq
                  refine wp_region_held_drew (S := fun W => TC t L.s L.v R.d R.q W ∧ AC G z W) (by kernel_rfl) ⟨H1.tc, ac_of q1⟩ (fun hHeld => ?_)
                  refine reg_take (i := 0) (v := ?_) rfl rfl (by kernel_rfl) (by kernel_rfl) (by kernel_rfl) (fun _ _ _ h => h) (by assumption) (by rfl) ?_ ?_
                  rotate_left 1
                  · (intro w hSw; (try dsimp only at hSw); go_simp; try with_reducible rfl)
                  try simp only [List.setIfInBounds_toArray, List.set_cons_zero, List.set_cons_succ]
                  refine reg_take (i := 1) (v := ?_) rfl rfl (by kernel_rfl) (by kernel_rfl) (by kernel_rfl) (fun _ _ _ h => h) (by assumption) (by rfl) ?_ ?_
                  rotate_left 1
                  · (intro w hSw; (try dsimp only at hSw); go_simp; try with_reducible rfl)
                  try simp only [List.setIfInBounds_toArray, List.set_cons_zero, List.set_cons_succ]
                  refine reg_take (i := 2) (v := ?_) rfl rfl (by kernel_rfl) (by kernel_rfl) (by kernel_rfl) (fun _ _ _ h => h) (by assumption) (by rfl) ?_ ?_
                  rotate_left 1
                  · (intro w hSw; (try dsimp only at hSw); go_simp; try with_reducible rfl)
                  try simp only [List.setIfInBounds_toArray, List.set_cons_zero, List.set_cons_succ]
                  refine reg_take (i := 3) (v := ?_) rfl rfl (by kernel_rfl) (by kernel_rfl) (by kernel_rfl) (fun _ _ _ h => h) (by assumption) (by rfl) ?_ ?_
                  rotate_left 1
                  · (intro w hSw; (try dsimp only at hSw); go_simp; try with_reducible rfl)
                  try simp only [List.setIfInBounds_toArray, List.set_cons_zero, List.set_cons_succ]
                  refine reg_take (i := 4) (v := ?_) rfl rfl (by kernel_rfl) (by kernel_rfl) (by kernel_rfl) (fun _ _ _ h => h) (by assumption) (by rfl) ?_ ?_
                  rotate_left 1
                  · (intro w hSw; (try dsimp only at hSw); go_simp; try with_reducible rfl)
                  try simp only [List.setIfInBounds_toArray, List.set_cons_zero, List.set_cons_succ]
                  refine reg_take (i := 5) (v := ?_) rfl rfl (by kernel_rfl) (by kernel_rfl) (by kernel_rfl) (fun _ _ _ h => h) (by assumption) (by rfl) ?_ ?_
                  rotate_left 1
                  · (intro w hSw; (try dsimp only at hSw); go_simp; try with_reducible rfl)
                  try simp only [List.setIfInBounds_toArray, List.set_cons_zero, List.set_cons_succ]
                  refine reg_take (i := 6) (v := ?_) rfl rfl (by kernel_rfl) (by kernel_rfl) (by kernel_rfl) (fun _ _ _ h => h) (by assumption) (by rfl) ?_ ?_
                  rotate_left 1
                  · (intro w hSw; (try dsimp only at hSw); go_simp; try with_reducible rfl)
                  try simp only [List.setIfInBounds_toArray, List.set_cons_zero, List.set_cons_succ]
                  refine reg_take (i := 7) (v := ?_) rfl rfl (by kernel_rfl) (by kernel_rfl) (by kernel_rfl) (fun _ _ _ h => h) (by assumption) (by rfl) ?_ ?_
                  rotate_left 1
                  · (intro w hSw; (try dsimp only at hSw); go_simp; try with_reducible rfl)
                  try simp only [List.setIfInBounds_toArray, List.set_cons_zero, List.set_cons_succ]
                  refine reg_take (i := 8) (v := ?_) rfl rfl (by kernel_rfl) (by kernel_rfl) (by kernel_rfl) (fun _ _ _ h => h) (by assumption) (by rfl) ?_ ?_
                  rotate_left 1
                  · (intro w hSw; (try dsimp only at hSw); go_simp; try with_reducible rfl)
                  try simp only [List.setIfInBounds_toArray, List.set_cons_zero, List.set_cons_succ]
                  refine reg_take (i := 9) (v := ?_) rfl rfl (by kernel_rfl) (by kernel_rfl) (by kernel_rfl) (fun _ _ _ h => h) (by assumption) (by rfl) ?_ ?_
                  rotate_left 1
                  · (intro w hSw; (try dsimp only at hSw); go_simp; try with_reducible rfl)
                  try simp only [List.setIfInBounds_toArray, List.set_cons_zero, List.set_cons_succ]
                  refine reg_take (i := 11) (v := ?_) rfl rfl (by kernel_rfl) (by kernel_rfl) (by kernel_rfl) (fun _ _ _ h => h) (by assumption) (by rfl) ?_ ?_
                  rotate_left 1
                  · (intro w hSw; (try dsimp only at hSw); go_simp; try with_reducible rfl)
                  try simp only [List.setIfInBounds_toArray, List.set_cons_zero, List.set_cons_succ]
                  refine reg_take (i := 12) (v := ?_) rfl rfl (by kernel_rfl) (by kernel_rfl) (by kernel_rfl) (fun _ _ _ h => h) (by assumption) (by rfl) ?_ ?_
                  rotate_left 1
                  · (intro w hSw; (try dsimp only at hSw); go_simp; try with_reducible rfl)
                  try simp only [List.setIfInBounds_toArray, List.set_cons_zero, List.set_cons_succ]
                  refine reg_take (i := 13) (v := ?_) rfl rfl (by kernel_rfl) (by kernel_rfl) (by kernel_rfl) (fun _ _ _ h => h) (by assumption) (by rfl) ?_ ?_
                  rotate_left 1
                  · (intro w hSw; (try dsimp only at hSw); go_simp; try with_reducible rfl)
                  try simp only [List.setIfInBounds_toArray, List.set_cons_zero, List.set_cons_succ]
                  refine reg_take (i := 14) (v := ?_) rfl rfl (by kernel_rfl) (by kernel_rfl) (by kernel_rfl) (fun _ _ _ h => h) (by assumption) (by rfl) ?_ ?_
                  rotate_left 1
                  · (intro w hSw; (try dsimp only at hSw); go_simp; try with_reducible rfl)
                  try simp only [List.setIfInBounds_toArray, List.set_cons_zero, List.set_cons_succ]
                  refine reg_take (i := 15) (v := ?_) rfl rfl (by kernel_rfl) (by kernel_rfl) (by kernel_rfl) (fun _ _ _ h => h) (by assumption) (by rfl) ?_ ?_
                  rotate_left 1
                  · (intro w hSw; (try dsimp only at hSw); go_simp; try with_reducible rfl)
                  try simp only [List.setIfInBounds_toArray, List.set_cons_zero, List.set_cons_succ]
                  refine reg_take (i := 16) (v := ?_) rfl rfl (by kernel_rfl) (by kernel_rfl) (by kernel_rfl) (fun _ _ _ h => h) (by assumption) (by rfl) ?_ ?_
                  rotate_left 1
                  · (intro w hSw; (try dsimp only at hSw); go_simp; try with_reducible rfl)
                  try simp only [List.setIfInBounds_toArray, List.set_cons_zero, List.set_cons_succ]
                  refine reg_take (i := 17) (v := ?_) rfl rfl (by kernel_rfl) (by kernel_rfl) (by kernel_rfl) (fun _ _ _ h => h) (by assumption) (by rfl) ?_ ?_
                  rotate_left 1
                  · (intro w hSw; (try dsimp only at hSw); go_simp; try with_reducible rfl)
                  try simp only [List.setIfInBounds_toArray, List.set_cons_zero, List.set_cons_succ]
                  refine reg_take (i := 18) (v := ?_) rfl rfl (by kernel_rfl) (by kernel_rfl) (by kernel_rfl) (fun _ _ _ h => h) (by assumption) (by rfl) ?_ ?_
                  rotate_left 1
                  · (intro w hSw; (try dsimp only at hSw); go_simp; try with_reducible rfl)
                  try simp only [List.setIfInBounds_toArray, List.set_cons_zero, List.set_cons_succ]
                  refine reg_take (i := 19) (v := ?_) rfl rfl (by kernel_rfl) (by kernel_rfl) (by kernel_rfl) (fun _ _ _ h => h) (by assumption) (by rfl) ?_ ?_
                  rotate_left 1
                  · (intro w hSw; (try dsimp only at hSw); go_simp; try with_reducible rfl)
                  try simp only [List.setIfInBounds_toArray, List.set_cons_zero, List.set_cons_succ]
                  refine reg_take (i := 20) (v := ?_) rfl rfl (by kernel_rfl) (by kernel_rfl) (by kernel_rfl) (fun _ _ _ h => h) (by assumption) (by rfl) ?_ ?_
                  rotate_left 1
                  · (intro w hSw; (try dsimp only at hSw); go_simp; try with_reducible rfl)
                  try simp only [List.setIfInBounds_toArray, List.set_cons_zero, List.set_cons_succ]
                  refine reg_step (i := 10) (by kernel_rfl) rfl (by rfl) (fun KC hKC => ?_)
                  go_simp
                  refine (ichange_any L st (z 1) (z 2) (z 3) _ H1.p.v).mono ?_; rintro e w2 ⟨rfl, hv2, t2⟩
                  have H2 := H1.left hv2 t2 (fun i q => by omega)
                  have q2 := H1.aqL q1 t2 (fun i q => by omega)
                  clear H1 q1 hv2 t2 hHeld
                  refine hKC.out _ _ ?_ (fun hHeld => ?_)
                  · exact ⟨H2.tc, ac_of q2⟩
                  clear hKC KC
                  refine reg_step (i := 21) (by kernel_rfl) rfl (by rfl) (fun KC hKC => ?_)
                  go_simp
                  refine (rchange_any R st (z 1) (z 2) (z 3) _ H2.p.r).mono ?_; rintro e w3 ⟨rfl, hv3, t3⟩
                  have H3 := H2.right hv3 t3 (fun i q => by omega)
                  have q3 := H2.aqR q2 t3 (fun i q => by omega)
                  clear H2 q2 hv3 t3 hHeld
                  refine hKC.out _ _ ?_ (fun hHeld => ?_)
                  · exact ⟨H3.tc, ac_of q3⟩
                  clear hKC KC
                  refine reg_take (i := 22) (v := ?_) rfl rfl (by kernel_rfl) (by kernel_rfl) (by kernel_rfl) (fun _ _ _ h => h) (by assumption) (by rfl) ?_ ?_
                  rotate_left 1
                  · (intro w hSw; (try dsimp only at hSw); go_simp; try with_reducible rfl)
                  try simp only [List.setIfInBounds_toArray, List.set_cons_zero, List.set_cons_succ]
                  refine reg_take (i := 23) (v := ?_) rfl rfl (by kernel_rfl) (by kernel_rfl) (by kernel_rfl) (fun _ _ _ h => h) (by assumption) (by rfl) ?_ ?_
                  rotate_left 1
                  · (intro w hSw; (try dsimp only at hSw); go_simp; try with_reducible rfl)
                  try simp only [List.setIfInBounds_toArray, List.set_cons_zero, List.set_cons_succ]
                  refine wpAnyH_done (by kernel_rfl) ?_ _
                  clear hHeld
                  go_wp2_with fail
                  go_meet
                  case rel => exact ⟨rfl, ⟨_, L, R, H3, O.iChange _ _ _⟩, q3⟩
              by_cases k3 : z 0 = 3
              ·
                as_aux_lemma =>
                  go_upto_region 17 with fail
                  have b0 : Below W1.heap.size W1 W1.drew := below_drewN (Below.refl _ W1) 1
                  have H1 := H0.below b0
                  have q1 := aq_below hq b0
                  clear b0 H0 hq
                  refine wp_region_held_drew (S := fun W => TC t L.s L.v R.d R.q W ∧ AC G z W) (by kernel_rfl) ⟨H1.tc, ac_of q1⟩ (fun hHeld => ?_)
                  refine reg_take (i := 0) (v := ?_) rfl rfl (by kernel_rfl) (by kernel_rfl) (by kernel_rfl) (fun _ _ _ h => h) (by assumption) (by rfl) ?_ ?_
                  rotate_left 1
                  · (intro w hSw; (try dsimp only at hSw); go_simp; try with_reducible rfl)
                  try simp only [List.setIfInBounds_toArray, List.set_cons_zero, List.set_cons_succ]
                  refine reg_take (i := 1) (v := ?_) rfl rfl (by kernel_rfl) (by kernel_rfl) (by kernel_rfl) (fun _ _ _ h => h) (by assumption) (by rfl) ?_ ?_
                  rotate_left 1
                  · (intro w hSw; (try dsimp only at hSw); go_simp; try with_reducible rfl)
                  try simp only [List.setIfInBounds_toArray, List.set_cons_zero, List.set_cons_succ]
                  refine reg_take (i := 2) (v := ?_) rfl rfl (by kernel_rfl) (by kernel_rfl) (by kernel_rfl) (fun _ _ _ h => h) (by assumption) (by rfl) ?_ ?_
                  rotate_left 1
                  · (intro w hSw; (try dsimp only at hSw); go_simp; try with_reducible rfl)
                  try simp only [List.setIfInBounds_toArray, List.set_cons_zero, List.set_cons_succ]
                  refine reg_take (i := 3) (v := ?_) rfl rfl (by kernel_rfl) (by kernel_rfl) (by kernel_rfl) (fun _ _ _ h => h) (by assumption) (by rfl) ?_ ?_
                  rotate_left 1
                  · (intro w hSw; (try dsimp only at hSw); go_simp; try with_reducible rfl)
                  try simp only [List.setIfInBounds_toArray, List.set_cons_zero, List.set_cons_succ]
                  refine reg_take (i := 4) (v := ?_) rfl rfl (by kernel_rfl) (by kernel_rfl) (by kernel_rfl) (fun _ _ _ h => h) (by assumption) (by rfl) ?_ ?_
                  rotate_left 1
                  · (intro w hSw; (try dsimp only at hSw); go_simp; try with_reducible rfl)
                  try simp only [List.setIfInBounds_toArray, List.set_cons_zero, List.set_cons_succ]
                  refine reg_take (i := 5) (v := ?_) rfl rfl (by kernel_rfl) (by kernel_rfl) (by kernel_rfl) (fun _ _ _ h => h) (by assumption) (by rfl) ?_ ?_
                  rotate_left 1
                  · (intro w hSw; (try dsimp only at hSw); go_simp; try with_reducible rfl)
                  try simp only [List.setIfInBounds_toArray, List.set_cons_zero, List.set_cons_succ]
                  refine reg_take (i := 6) (v := ?_) rfl rfl (by kernel_rfl) (by kernel_rfl) (by kernel_rfl) (fun _ _ _ h => h) (by assumption) (by rfl) ?_ ?_
                  rotate_left 1
                  · (intro w hSw; (try dsimp only at hSw); go_simp; try with_reducible rfl)
                  try simp only [List.setIfInBounds_toArray, List.set_cons_zero, List.set_cons_succ]
                  refine reg_take (i := 7) (v := ?_) rfl rfl (by kernel_rfl) (by kernel_rfl) (by kernel_rfl) (fun _ _ _ h => h) (by assumption) (by rfl) ?_ ?_
                  rotate_left 1
                  · (intro w hSw; (try dsimp only at hSw); go_simp; try with_reducible rfl)
                  try simp only [List.setIfInBounds_toArray, List.set_cons_zero, List.set_cons_succ]
                  refine reg_take (i := 8) (v := ?_) rfl rfl (by kernel_rfl) (by kernel_rfl) (by kernel_rfl) (fun _ _ _ h => h) (by assumption) (by rfl) ?_ ?_
                  rotate_left 1
                  · (intro w hSw; (try dsimp only at hSw); go_simp; try with_reducible rfl)
                  try simp only [List.setIfInBounds_toArray, List.set_cons_zero, List.set_cons_succ]
                  refine reg_take (i := 9) (v := ?_) rfl rfl (by kernel_rfl) (by kernel_rfl) (by kernel_rfl) (fun _ _ _ h => h) (by assumption) (by rfl) ?_ ?_
                  rotate_left 1
                  · (intro w hSw; (try dsimp only at hSw); go_simp; try with_reducible rfl)
                  try simp only [List.setIfInBounds_toArray, List.set_cons_zero, List.set_cons_succ]
                  refine reg_take (i := 11) (v := ?_) rfl rfl (by kernel_rfl) (by kernel_rfl) (by kernel_rfl) (fun _ _ _ h => h) (by assumption) (by rfl) ?_ ?_
                  rotate_left 1
                  · (intro w hSw; (try dsimp only at hSw); go_simp; try with_reducible rfl)
                  try simp only [List.setIfInBounds_toArray, List.set_cons_zero, List.set_cons_succ]
                  refine reg_take (i := 12) (v := ?_) rfl rfl (by kernel_rfl) (by kernel_rfl) (by kernel_rfl) (fun _ _ _ h => h) (by assumption) (by rfl) ?_ ?_
                  rotate_left 1
                  · (intro w hSw; (try dsimp only at hSw); go_simp; try with_reducible rfl)
                  try simp only [List.setIfInBounds_toArray, List.set_cons_zero, List.set_cons_succ]
                  refine reg_take (i := 13) (v := ?_) rfl rfl (by kernel_rfl) (by kernel_rfl) (by kernel_rfl) (fun _ _ _ h => h) (by assumption) (by rfl) ?_ ?_
                  rotate_left 1
                  · (intro w hSw; (try dsimp only at hSw); go_simp; try with_reducible rfl)
                  try simp only [List.setIfInBounds_toArray, List.set_cons_zero, List.set_cons_succ]
                  refine reg_take (i := 14) (v := ?_) rfl rfl (by kernel_rfl) (by kernel_rfl) (by kernel_rfl) (fun _ _ _ h => h) (by assumption) (by rfl) ?_ ?_
                  rotate_left 1
                  · (intro w hSw; (try dsimp only at hSw); go_simp; try with_reducible rfl)
                  try simp only [List.setIfInBounds_toArray, List.set_cons_zero, List.set_cons_succ]
                  refine reg_take (i := 15) (v := ?_) rfl rfl (by kernel_rfl) (by kernel_rfl) (by kernel_rfl) (fun _ _ _ h => h) (by assumption) (by rfl) ?_ ?_
                  rotate_left 1
                  · (intro w hSw; (try dsimp only at hSw); go_simp; try with_reducible rfl)
                  try simp only [List.setIfInBounds_toArray, List.set_cons_zero, List.set_cons_succ]
                  refine reg_take (i := 16) (v := ?_) rfl rfl (by kernel_rfl) (by kernel_rfl) (by kernel_rfl) (fun _ _ _ h => h) (by assumption) (by rfl) ?_ ?_
                  rotate_left 1
                  · (intro w hSw; (try dsimp only at hSw); go_simp; try with_reducible rfl)
                  try simp only [List.setIfInBounds_toArray, List.set_cons_zero, List.set_cons_succ]
                  refine reg_take (i := 17) (v := ?_) rfl rfl (by kernel_rfl) (by kernel_rfl) (by kernel_rfl) (fun _ _ _ h => h) (by assumption) (by rfl) ?_ ?_
                  rotate_left 1
                  · (intro w hSw; (try dsimp only at hSw); go_simp; try with_reducible rfl)
                  try simp only [List.setIfInBounds_toArray, List.set_cons_zero, List.set_cons_succ]
                  refine reg_take (i := 18) (v := ?_) rfl rfl (by kernel_rfl) (by kernel_rfl) (by kernel_rfl) (fun _ _ _ h => h) (by assumption) (by rfl) ?_ ?_
                  rotate_left 1
                  · (intro w hSw; (try dsimp only at hSw); go_simp; try with_reducible rfl)
                  try simp only [List.setIfInBounds_toArray, List.set_cons_zero, List.set_cons_succ]
                  refine reg_take (i := 19) (v := ?_) rfl rfl (by kernel_rfl) (by kernel_rfl) (by kernel_rfl) (fun _ _ _ h => h) (by assumption) (by rfl) ?_ ?_
                  rotate_left 1
                  · (intro w hSw; (try dsimp only at hSw); go_simp; try with_reducible rfl)
                  try simp only [List.setIfInBounds_toArray, List.set_cons_zero, List.set_cons_succ]
                  refine reg_take (i := 20) (v := ?_) rfl rfl (by kernel_rfl) (by kernel_rfl) (by kernel_rfl) (fun _ _ _ h => h) (by assumption) (by rfl) ?_ ?_
                  rotate_left 1
                  · (intro w hSw; (try dsimp only at hSw); go_simp; try with_reducible rfl)
                  try simp only [List.setIfInBounds_toArray, List.set_cons_zero, List.set_cons_succ]
                  refine reg_step (i := 10) (by kernel_rfl) rfl (by rfl) (fun KC hKC => ?_)
                  go_simp
                  refine (iread_any L st (z 1) (z 2) (z 3) (O.val' _) _ H1.p.v).mono ?_; rintro e w2 ⟨rfl, hv2, t2⟩
                  have H2 := H1.left hv2 t2 (fun i q => by omega)
                  have q2 := H1.aqL q1 t2 (fun i q => by omega)
                  clear H1 q1 hv2 t2 hHeld
                  refine hKC.out _ _ ?_ (fun hHeld => ?_)
                  · exact ⟨H2.tc, ac_of q2⟩
                  clear hKC KC
                  refine reg_step (i := 21) (by kernel_rfl) rfl (by rfl) (fun KC hKC => ?_)
                  go_simp
                  refine (rread_any R st (z 1) (z 2) (z 3) (O.val' _) _ H2.p.r).mono ?_; rintro e w3 ⟨rfl, hv3, t3⟩
                  have H3 := H2.right hv3 t3 (fun i q => by omega)
                  have q3 := H2.aqR q2 t3 (fun i q => by omega)
                  clear H2 q2 hv3 t3 hHeld
                  refine hKC.out _ _ ?_ (fun hHeld => ?_)
                  · exact ⟨H3.tc, ac_of q3⟩
                  clear hKC KC
                  refine reg_take (i := 22) (v := ?_) rfl rfl (by kernel_rfl) (by kernel_rfl) (by kernel_rfl) (fun _ _ _ h => h) (by assumption) (by rfl) ?_ ?_
                  rotate_left 1
                  · (intro w hSw; (try dsimp only at hSw); go_simp; try with_reducible rfl)
                  try simp only [List.setIfInBounds_toArray, List.set_cons_zero, List.set_cons_succ]
                  refine reg_take (i := 23) (v := ?_) rfl rfl (by kernel_rfl) (by kernel_rfl) (by kernel_rfl) (fun _ _ _ h => h) (by assumption) (by rfl) ?_ ?_
                  rotate_left 1
                  · (intro w hSw; (try dsimp only at hSw); go_simp; try with_reducible rfl)
                  try simp only [List.setIfInBounds_toArray, List.set_cons_zero, List.set_cons_succ]
                  refine wpAnyH_done (by kernel_rfl) ?_ _
                  clear hHeld
                  go_wp2_with fail
                  go_meet
                  case rel => exact ⟨rfl, ⟨_, L, R, H3, O.iSaw _⟩, q3⟩
              by_cases k4 : z 0 = 4
              ·
                as_aux_lemma =>
                  go_upto_region 19 with fail
                  have b0 : Below W1.heap.size W1 W1.drew := below_drewN (Below.refl _ W1) 1
                  have H1 := H0.below b0
                  have q1 := aq_below hq b0
                  clear b0 H0 hq
                  refine wp_region_held_drew (S := fun W => AC G z W) (by kernel_rfl) (ac_of q1) (fun hHeld => ?_)
                  refine reg_take (i := 0) (v := ?_) rfl rfl (by kernel_rfl) (by kernel_rfl) (by kernel_rfl) (fun _ _ _ h => h) (by assumption) (by rfl) ?_ ?_
                  rotate_left 1
                  · (intro w hSw; (try dsimp only at hSw); go_simp; try with_reducible rfl)
                  try simp only [List.setIfInBounds_toArray, List.set_cons_zero, List.set_cons_succ]
                  refine reg_take (i := 1) (v := ?_) rfl rfl (by kernel_rfl) (by kernel_rfl) (by kernel_rfl) (fun _ _ _ h => h) (by assumption) (by rfl) ?_ ?_
                  rotate_left 1
                  · (intro w hSw; (try dsimp only at hSw); go_simp; try with_reducible rfl)
                  try simp only [List.setIfInBounds_toArray, List.set_cons_zero, List.set_cons_succ]
                  refine reg_take (i := 2) (v := ?_) rfl rfl (by kernel_rfl) (by kernel_rfl) (by kernel_rfl) (fun _ _ _ h => h) (by assumption) (by rfl) ?_ ?_
                  rotate_left 1
                  · (intro w hSw; (try dsimp only at hSw); go_simp; try with_reducible rfl)
                  try simp only [List.setIfInBounds_toArray, List.set_cons_zero, List.set_cons_succ]
                  refine reg_take (i := 3) (v := ?_) rfl rfl (by kernel_rfl) (by kernel_rfl) (by kernel_rfl) (fun _ _ _ h => h) (by assumption) (by rfl) ?_ ?_
                  rotate_left 1
                  · (intro w hSw; (try dsimp only at hSw); go_simp; try with_reducible rfl)
                  try simp only [List.setIfInBounds_toArray, List.set_cons_zero, List.set_cons_succ]
                  refine reg_step (i := 4) (by kernel_rfl) rfl (by rfl) (fun KC hKC => ?_)
                  go_simp
                  refine (Fp.within_any _ _ _ (by decide) (by decide) (by decide) _).mono ?_; rintro e w2 ⟨rfl, rfl⟩
                  have hwb := Fp.within_bounds (z 4) 0 140 (by decide)
                  refine hKC.out _ _ ?_ (fun hHeld => ?_)
                  · exact ac_of q1
                  clear hKC KC
                  refine reg_step (i := 5) (by kernel_rfl) rfl (by rfl) (fun KC hKC => ?_)
                  go_simp
                  refine (text_any _ _ hwb.1 (by omega) _).mono ?_; rintro e w2 ⟨d, rfl, hd, t2⟩
                  have H2 := H1.below t2
                  have q2 := aq_below q1 t2
                  have hd2 : (d.size : Int) ≤ 140737488351232 := by omega
                  clear H1 q1 t2 hHeld hwb hd
                  refine hKC.out _ _ ?_ (fun hHeld => ?_)
                  · exact ac_of q2
                  clear hKC KC
                  refine reg_take (i := 6) (v := ?_) rfl rfl (by kernel_rfl) (by kernel_rfl) (by kernel_rfl) (fun _ _ _ h => h) (by assumption) (by rfl) ?_ ?_
                  rotate_left 1
                  · (intro w hSw; (try dsimp only at hSw); go_simp; try with_reducible rfl)
                  try simp only [List.setIfInBounds_toArray, List.set_cons_zero, List.set_cons_succ]
                  refine wpAnyH_done (by kernel_rfl) ?_ _
                  clear hHeld
                  go_upto_region 20 with fail
                  have b0 : Below w2.heap.size w2 w2.drew := below_drewN (Below.refl _ w2) 1
                  have H3 := H2.below b0
                  have q3 := aq_below q2 b0
                  clear b0 H2 q2
                  refine wp_region_held_drew (S := fun W => TC t L.s L.v R.d R.q W ∧ AC G z W) (by kernel_rfl) ⟨H3.tc, ac_of q3⟩ (fun hHeld => ?_)
                  refine reg_take (i := 0) (v := ?_) rfl rfl (by kernel_rfl) (by kernel_rfl) (by kernel_rfl) (fun _ _ _ h => h) (by assumption) (by rfl) ?_ ?_
                  rotate_left 1
                  · (intro w hSw; (try dsimp only at hSw); go_simp; try with_reducible rfl)
                  try simp only [List.setIfInBounds_toArray, List.set_cons_zero, List.set_cons_succ]
                  refine reg_take (i := 1) (v := ?_) rfl rfl (by kernel_rfl) (by kernel_rfl) (by kernel_rfl) (fun _ _ _ h => h) (by assumption) (by rfl) ?_ ?_
                  rotate_left 1
                  · (intro w hSw; (try dsimp only at hSw); go_simp; try with_reducible rfl)
                  try simp only [List.setIfInBounds_toArray, List.set_cons_zero, List.set_cons_succ]
                  refine reg_take (i := 2) (v := ?_) rfl rfl (by kernel_rfl) (by kernel_rfl) (by kernel_rfl) (fun _ _ _ h => h) (by assumption) (by rfl) ?_ ?_
                  rotate_left 1
                  · (intro w hSw; (try dsimp only at hSw); go_simp; try with_reducible rfl)
                  try simp only [List.setIfInBounds_toArray, List.set_cons_zero, List.set_cons_succ]
                  refine reg_take (i := 3) (v := ?_) rfl rfl (by kernel_rfl) (by kernel_rfl) (by kernel_rfl) (fun _ _ _ h => h) (by assumption) (by rfl) ?_ ?_
                  rotate_left 1
                  · (intro w hSw; (try dsimp only at hSw); go_simp; try with_reducible rfl)
                  try simp only [List.setIfInBounds_toArray, List.set_cons_zero, List.set_cons_succ]
                  refine reg_take (i := 4) (v := ?_) rfl rfl (by kernel_rfl) (by kernel_rfl) (by kernel_rfl) (fun _ _ _ h => h) (by assumption) (by rfl) ?_ ?_
                  rotate_left 1
                  · (intro w hSw; (try dsimp only at hSw); go_simp; try with_reducible rfl)
                  try simp only [List.setIfInBounds_toArray, List.set_cons_zero, List.set_cons_succ]
                  refine reg_take (i := 5) (v := ?_) rfl rfl (by kernel_rfl) (by kernel_rfl) (by kernel_rfl) (fun _ _ _ h => h) (by assumption) (by rfl) ?_ ?_
                  rotate_left 1
                  · (intro w hSw; (try dsimp only at hSw); go_simp; try with_reducible rfl)
                  try simp only [List.setIfInBounds_toArray, List.set_cons_zero, List.set_cons_succ]
                  refine reg_take (i := 6) (v := ?_) rfl rfl (by kernel_rfl) (by kernel_rfl) (by kernel_rfl) (fun _ _ _ h => h) (by assumption) (by rfl) ?_ ?_
                  rotate_left 1
                  · (intro w hSw; (try dsimp only at hSw); go_simp; try with_reducible rfl)
                  try simp only [List.setIfInBounds_toArray, List.set_cons_zero, List.set_cons_succ]
                  refine reg_take (i := 7) (v := ?_) rfl rfl (by kernel_rfl) (by kernel_rfl) (by kernel_rfl) (fun _ _ _ h => h) (by assumption) (by rfl) ?_ ?_
                  rotate_left 1
                  · (intro w hSw; (try dsimp only at hSw); go_simp; try with_reducible rfl)
                  try simp only [List.setIfInBounds_toArray, List.set_cons_zero, List.set_cons_succ]
                  refine reg_take (i := 8) (v := ?_) rfl rfl (by kernel_rfl) (by kernel_rfl) (by kernel_rfl) (fun _ _ _ h => h) (by assumption) (by rfl) ?_ ?_
                  rotate_left 1
                  · (intro w hSw; (try dsimp only at hSw); go_simp; try with_reducible rfl)
                  try simp only [List.setIfInBounds_toArray, List.set_cons_zero, List.set_cons_succ]
                  refine reg_take (i := 10) (v := ?_) rfl rfl (by kernel_rfl) (by kernel_rfl) (by kernel_rfl) (fun _ _ _ h => h) (by assumption) (by rfl) ?_ ?_
                  rotate_left 1
                  · (intro w hSw; (try dsimp only at hSw); go_simp; try with_reducible rfl)
                  try simp only [List.setIfInBounds_toArray, List.set_cons_zero, List.set_cons_succ]
                  refine reg_take (i := 11) (v := ?_) rfl rfl (by kernel_rfl) (by kernel_rfl) (by kernel_rfl) (fun _ _ _ h => h) (by assumption) (by rfl) ?_ ?_
                  rotate_left 1
                  · (intro w hSw; (try dsimp only at hSw); go_simp; try with_reducible rfl)
                  try simp only [List.setIfInBounds_toArray, List.set_cons_zero, List.set_cons_succ]
                  refine reg_take (i := 12) (v := ?_) rfl rfl (by kernel_rfl) (by kernel_rfl) (by kernel_rfl) (fun _ _ _ h => h) (by assumption) (by rfl) ?_ ?_
                  rotate_left 1
                  · (intro w hSw; (try dsimp only at hSw); go_simp; try with_reducible rfl)
                  try simp only [List.setIfInBounds_toArray, List.set_cons_zero, List.set_cons_succ]
                  refine reg_take (i := 13) (v := ?_) rfl rfl (by kernel_rfl) (by kernel_rfl) (by kernel_rfl) (fun _ _ _ h => h) (by assumption) (by rfl) ?_ ?_
                  rotate_left 1
                  · (intro w hSw; (try dsimp only at hSw); go_simp; try with_reducible rfl)
                  try simp only [List.setIfInBounds_toArray, List.set_cons_zero, List.set_cons_succ]
                  refine reg_take (i := 14) (v := ?_) rfl rfl (by kernel_rfl) (by kernel_rfl) (by kernel_rfl) (fun _ _ _ h => h) (by assumption) (by rfl) ?_ ?_
                  rotate_left 1
                  · (intro w hSw; (try dsimp only at hSw); go_simp; try with_reducible rfl)
                  try simp only [List.setIfInBounds_toArray, List.set_cons_zero, List.set_cons_succ]
                  refine reg_take (i := 15) (v := ?_) rfl rfl (by kernel_rfl) (by kernel_rfl) (by kernel_rfl) (fun _ _ _ h => h) (by assumption) (by rfl) ?_ ?_
                  rotate_left 1
                  · (intro w hSw; (try dsimp only at hSw); go_simp; try with_reducible rfl)
                  try simp only [List.setIfInBounds_toArray, List.set_cons_zero, List.set_cons_succ]
                  refine reg_take (i := 16) (v := ?_) rfl rfl (by kernel_rfl) (by kernel_rfl) (by kernel_rfl) (fun _ _ _ h => h) (by assumption) (by rfl) ?_ ?_
                  rotate_left 1
                  · (intro w hSw; (try dsimp only at hSw); go_simp; try with_reducible rfl)
                  try simp only [List.setIfInBounds_toArray, List.set_cons_zero, List.set_cons_succ]
                  refine reg_take (i := 17) (v := ?_) rfl rfl (by kernel_rfl) (by kernel_rfl) (by kernel_rfl) (fun _ _ _ h => h) (by assumption) (by rfl) ?_ ?_
                  rotate_left 1
                  · (intro w hSw; (try dsimp only at hSw); go_simp; try with_reducible rfl)
                  try simp only [List.setIfInBounds_toArray, List.set_cons_zero, List.set_cons_succ]
                  refine reg_take (i := 18) (v := ?_) rfl rfl (by kernel_rfl) (by kernel_rfl) (by kernel_rfl) (fun _ _ _ h => h) (by assumption) (by rfl) ?_ ?_
                  rotate_left 1
                  · (intro w hSw; (try dsimp only at hSw); go_simp; try with_reducible rfl)
                  try simp only [List.setIfInBounds_toArray, List.set_cons_zero, List.set_cons_succ]
                  refine reg_step (i := 9) (by kernel_rfl) rfl (by rfl) (fun KC hKC => ?_)
                  go_simp
                  refine (iwrite_any L st (z 1) (z 2) d (O.val' _) hd2 _ H3.p.v).mono ?_; rintro e w4 ⟨rfl, hv4, t4⟩
                  have H4 := H3.left hv4 t4 (fun i q => by omega)
                  have q4 := H3.aqL q3 t4 (fun i q => by omega)
                  clear H3 q3 hv4 t4 hHeld
                  refine hKC.out _ _ ?_ (fun hHeld => ?_)
                  · exact ⟨H4.tc, ac_of q4⟩
                  clear hKC KC
                  refine reg_step (i := 19) (by kernel_rfl) rfl (by rfl) (fun KC hKC => ?_)
                  go_simp
                  refine (rwrite_any R st (z 1) (z 2) d (O.val' _) hd2 _ H4.p.r).mono ?_; rintro e w5 ⟨rfl, hv5, t5⟩
                  have H5 := H4.right hv5 t5 (fun i q => by omega)
                  have q5 := H4.aqR q4 t5 (fun i q => by omega)
                  clear H4 q4 hv5 t5 hHeld
                  refine hKC.out _ _ ?_ (fun hHeld => ?_)
                  · exact ⟨H5.tc, ac_of q5⟩
                  clear hKC KC
                  refine reg_take (i := 20) (v := ?_) rfl rfl (by kernel_rfl) (by kernel_rfl) (by kernel_rfl) (fun _ _ _ h => h) (by assumption) (by rfl) ?_ ?_
                  rotate_left 1
                  · (intro w hSw; (try dsimp only at hSw); go_simp; try with_reducible rfl)
                  try simp only [List.setIfInBounds_toArray, List.set_cons_zero, List.set_cons_succ]
                  refine reg_take (i := 21) (v := ?_) rfl rfl (by kernel_rfl) (by kernel_rfl) (by kernel_rfl) (fun _ _ _ h => h) (by assumption) (by rfl) ?_ ?_
                  rotate_left 1
                  · (intro w hSw; (try dsimp only at hSw); go_simp; try with_reducible rfl)
                  try simp only [List.setIfInBounds_toArray, List.set_cons_zero, List.set_cons_succ]
                  refine wpAnyH_done (by kernel_rfl) ?_ _
                  clear hHeld
                  go_wp2_with fail
                  go_meet
                  case rel => exact ⟨by simp, ⟨_, L, R, H5, O.iWrite _ _ _⟩, q5⟩
              by_cases k5 : z 0 = 5
              ·
                as_aux_lemma =>
                  go_wp2_with fail
                  refine (dput_any w t L R st _ H0 O.v).mono ?_; rintro e w3 ⟨rfl, L', R', H3, T3⟩
                  have q3 : AQ G z w3 := blk_of_turn T3 hq (by
                    have h1 := H0.p.far hq (by decide)
                    have h2 : G ≠ t := fun e => by
                      have h3 := H0.tw
                      rw [← e] at h3
                      unfold TwoAt at h3
                      rw [hq] at h3
                      injection h3 with h3
                      injection h3 with _ h3
                      cases h3
                    omega)
                  clear H0 hq T3
                  go_wp2_with fail
                  go_meet
                  case rel => exact ⟨rfl, ⟨_, L', R', H3, O.all⟩, q3⟩
              go_wp2_with fail
              go_meet
              case rel => exact ⟨rfl, ⟨st, L, R, H0, O⟩, hq⟩
            case rest =>
              clear H0 hq O
              obtain ⟨rfl, ⟨st, L, R, H, O⟩, hq⟩ := hcut
              as_aux_lemma =>
                go_upto_region 24 with fail
                have bA : Below wc.heap.size wc (wc.alloc (Obj.cells Val.zero.cells 47)).drew := below_drewN ((Below.refl wc.heap.size wc).alloc (Nat.le_refl _) (Obj.cells Val.zero.cells 47)) 1
                have rX : blk (wc.alloc (Obj.cells Val.zero.cells 47)).drew wc.heap.size = some (.cells Val.zero.cells 47 (0, 0)) := by rw [blk_drew]; exact heap_alloc_new _ _
                have H1 := H.below bA
                have q1 := aq_below hq bA
                have hX : wc.heap.size ≠ G ∧ wc.heap.size ≠ t ∧ wc.heap.size ≠ L.l ∧ wc.heap.size ≠ L.r ∧ wc.heap.size ≠ L.m ∧ wc.heap.size ≠ R.s ∧ wc.heap.size ≠ R.r ∧ wc.heap.size ≠ R.m ∧ wc.heap.size ≠ L.v ∧ wc.heap.size ≠ L.s ∧ wc.heap.size ≠ R.q ∧ wc.heap.size ≠ R.d ∧ w.heap.size ≤ wc.heap.size := by
                  have h1 := H.p.v.lts
                  have h2 := H.p.r.lts
                  have h3 := lt_of_heap hq
                  have h4 := blk_lt H.tw
                  have h5 := H.p.b.size
                  omega
                clear bA H hq
                refine wp_region_held_drew (S := fun W => TC t L.s L.v R.d R.q W ∧ AC G z W) (by kernel_rfl) ⟨H1.tc, ac_of q1⟩ (fun hHeld => ?_)
                generalize (wc.alloc (Obj.cells Val.zero.cells 47)).drew = W2 at *
                generalize wc.heap.size = X at *
                refine reg_take (i := 0) (v := ?_) rfl rfl (by kernel_rfl) (by kernel_rfl) (by kernel_rfl) (fun _ _ _ h => h) (by assumption) (by rfl) ?_ ?_
                rotate_left 1
                · (intro w hSw; (try dsimp only at hSw); go_simp; try with_reducible rfl)
                try simp only [List.setIfInBounds_toArray, List.set_cons_zero, List.set_cons_succ]
                refine reg_take (i := 1) (v := ?_) rfl rfl (by kernel_rfl) (by kernel_rfl) (by kernel_rfl) (fun _ _ _ h => h) (by assumption) (by rfl) ?_ ?_
                rotate_left 1
                · (intro w hSw; (try dsimp only at hSw); go_simp; try with_reducible rfl)
                try simp only [List.setIfInBounds_toArray, List.set_cons_zero, List.set_cons_succ]
                refine reg_take (i := 2) (v := ?_) rfl rfl (by kernel_rfl) (by kernel_rfl) (by kernel_rfl) (fun _ _ _ h => h) (by assumption) (by rfl) ?_ ?_
                rotate_left 1
                · (intro w hSw; (try dsimp only at hSw); go_simp; try with_reducible rfl)
                try simp only [List.setIfInBounds_toArray, List.set_cons_zero, List.set_cons_succ]
                refine reg_take (i := 3) (v := ?_) rfl rfl (by kernel_rfl) (by kernel_rfl) (by kernel_rfl) (fun _ _ _ h => h) (by assumption) (by rfl) ?_ ?_
                rotate_left 1
                · (intro w hSw; (try dsimp only at hSw); go_simp; try with_reducible rfl)
                try simp only [List.setIfInBounds_toArray, List.set_cons_zero, List.set_cons_succ]
                refine reg_take (i := 4) (v := ?_) rfl rfl (by kernel_rfl) (by kernel_rfl) (by kernel_rfl) (fun _ _ _ h => h) (by assumption) (by rfl) ?_ ?_
                rotate_left 1
                · (intro w hSw; (try dsimp only at hSw); go_simp; try with_reducible rfl)
                try simp only [List.setIfInBounds_toArray, List.set_cons_zero, List.set_cons_succ]
                refine reg_take (i := 5) (v := ?_) rfl rfl (by kernel_rfl) (by kernel_rfl) (by kernel_rfl) (fun _ _ _ h => h) (by assumption) (by rfl) ?_ ?_
                rotate_left 1
                · (intro w hSw; (try dsimp only at hSw); go_simp; try with_reducible rfl)
                try simp only [List.setIfInBounds_toArray, List.set_cons_zero, List.set_cons_succ]
                refine reg_step (i := 6) (by kernel_rfl) rfl (by rfl) (fun KC hKC => ?_)
                go_simp
                refine (ris_any R st (z 1) _ H1.p.r).mono ?_; rintro e w3 ⟨rfl, hv3, t3⟩
                have H3 := H1.right hv3 t3 (fun i q => by omega)
                have q3 := H1.aqR q1 t3 (fun i q => by omega)
                have rX3 := blk_of_turn t3 rX (show ¬ X = R.r by omega)
                clear H1 q1 rX hv3 t3 hHeld
                refine hKC.out _ _ ?_ (fun hHeld => ?_)
                · exact ⟨H3.tc, ac_of q3⟩
                clear hKC KC
                refine wpAnyH_done (by kernel_rfl) ?_ _
                clear hHeld
                go_upto_if 155 with fail
                go_cut [14] from 155 to 163 (fun xv wx => xv = .pointer (some ⟨X, 0, none⟩) ∧ Dbl w t L R st (iSaw st (z 1)) wx ∧ AQ G z wx ∧ blk wx X = some (.cells (iVal st (z 1)).cells 47 (0, 0)))
                case first =>
                  as_aux_lemma =>
                    cases hh : iHas st (z 1) with
                    | false =>
                      have ev := val_none hh
                      go_wp2_with fail
                      go_meet
                      case rel => exact ⟨rfl, H3, q3, by rw [ev]; exact rX3⟩
                    | true =>
                      obtain ⟨es, ev⟩ := has_val hh
                      have HS := Lib.hid es
                      have HV := Lib.hid ev
                      clear es ev
                      go_upto_region 25 with fail
                      have b0 : Below w3.heap.size w3 w3.drew := below_drewN (Below.refl _ w3) 1
                      have H4 := H3.below b0
                      have q4 := aq_below q3 b0
                      have rX4 := (b0.block X (lt_of_heap rX3)).trans rX3
                      clear b0 H3 q3 rX3
                      refine wp_region_held_drew (S := fun W => TC t L.s L.v R.d R.q W ∧ AC G z W) (by kernel_rfl) ⟨H4.tc, ac_of q4⟩ (fun hHeld => ?_)
                      generalize w3.drew = W4 at *
                      refine reg_take (i := 0) (v := ?_) rfl rfl (by kernel_rfl) (by kernel_rfl) (by kernel_rfl) (fun _ _ _ h => h) (by assumption) (by rfl) ?_ ?_
                      rotate_left 1
                      · (intro w hSw; (try dsimp only at hSw); go_simp; try with_reducible rfl)
                      try simp only [List.setIfInBounds_toArray, List.set_cons_zero, List.set_cons_succ]
                      refine reg_take (i := 1) (v := ?_) rfl rfl (by kernel_rfl) (by kernel_rfl) (by kernel_rfl) (fun _ _ _ h => h) (by assumption) (by rfl) ?_ ?_
                      rotate_left 1
                      · (intro w hSw; (try dsimp only at hSw); go_simp; try with_reducible rfl)
                      try simp only [List.setIfInBounds_toArray, List.set_cons_zero, List.set_cons_succ]
                      refine reg_take (i := 2) (v := ?_) rfl rfl (by kernel_rfl) (by kernel_rfl) (by kernel_rfl) (fun _ _ _ h => h) (by assumption) (by rfl) ?_ ?_
                      rotate_left 1
                      · (intro w hSw; (try dsimp only at hSw); go_simp; try with_reducible rfl)
                      try simp only [List.setIfInBounds_toArray, List.set_cons_zero, List.set_cons_succ]
                      refine reg_take (i := 3) (v := ?_) rfl rfl (by kernel_rfl) (by kernel_rfl) (by kernel_rfl) (fun _ _ _ h => h) (by assumption) (by rfl) ?_ ?_
                      rotate_left 1
                      · (intro w hSw; (try dsimp only at hSw); go_simp; try with_reducible rfl)
                      try simp only [List.setIfInBounds_toArray, List.set_cons_zero, List.set_cons_succ]
                      refine reg_take (i := 4) (v := ?_) rfl rfl (by kernel_rfl) (by kernel_rfl) (by kernel_rfl) (fun _ _ _ h => h) (by assumption) (by rfl) ?_ ?_
                      rotate_left 1
                      · (intro w hSw; (try dsimp only at hSw); go_simp; try with_reducible rfl)
                      try simp only [List.setIfInBounds_toArray, List.set_cons_zero, List.set_cons_succ]
                      refine reg_take (i := 5) (v := ?_) rfl rfl (by kernel_rfl) (by kernel_rfl) (by kernel_rfl) (fun _ _ _ h => h) (by assumption) (by rfl) ?_ ?_
                      rotate_left 1
                      · (intro w hSw; (try dsimp only at hSw); go_simp; try with_reducible rfl)
                      try simp only [List.setIfInBounds_toArray, List.set_cons_zero, List.set_cons_succ]
                      refine reg_take (i := 6) (v := ?_) rfl rfl (by kernel_rfl) (by kernel_rfl) (by kernel_rfl) (fun _ _ _ h => h) (by assumption) (by rfl) ?_ ?_
                      rotate_left 1
                      · (intro w hSw; (try dsimp only at hSw); go_simp; try with_reducible rfl)
                      try simp only [List.setIfInBounds_toArray, List.set_cons_zero, List.set_cons_succ]
                      refine reg_step (i := 7) (by kernel_rfl) rfl (by rfl) (fun KC hKC => ?_)
                      go_simp
                      refine (rvget_any R _ 10 (z 1) (by decide) _ H4.p.r).mono ?_; rintro e w5 ⟨rfl, hv5, t5⟩
                      have hv5' : RViewAt w5 R (iSaw st (z 1)) := by rw [HS.out, saw_twice] at hv5; rw [HS.out]; exact hv5
                      rw [show (iSaw st (z 1)).get 10 (z 1) = iVal st (z 1) by rw [HS.out, get_saw', HV.out]]
                      have H5 := H4.right hv5' t5 (fun i q => by omega)
                      have q5 := H4.aqR q4 t5 (fun i q => by omega)
                      have rX5 := blk_of_turn t5 rX4 (show ¬ X = R.r by omega)
                      clear H4 q4 rX4 hv5 hv5' t5 hHeld
                      refine hKC.out _ _ ?_ (fun hHeld => ?_)
                      · exact ⟨H5.tc, ac_of q5⟩
                      clear hKC KC
                      have T6 : Turn (· = X) w5 (w5.setRow X (iVal st (z 1)).cells) := (Turn.refl (· = X) w5).setRow (b := X) (Or.inl rfl) _
                      have H6 : Dbl w t L R st (iSaw st (z 1)) (w5.setRow X (iVal st (z 1)).cells) :=
                        ⟨⟨H5.p.v.keep T6 (fun i (e : i = X) => by omega), H5.p.r.keep T6 (fun i (e : i = X) => by omega), H5.p.b.trans (T6.below (B := w.heap.size) H5.p.b.size (fun i (e : i = X) => by omega))⟩, H5.f, blk_of_turn T6 H5.tw (fun e => hX.2.1 (Eq.symm e)), H5.tz⟩
                      have q6 : AQ G z (w5.setRow X (iVal st (z 1)).cells) := blk_of_turn T6 q5 (fun e => hX.1 (Eq.symm e))
                      have rX6 := setRow_heap _ _ _ (iVal st (z 1)).cells _ _ rX5
                      have hst : (storeV (.pointer (some ⟨X, 0, none⟩)) (.agg (iVal st (z 1)).cells)).run Try.prog w5 = .ok .skip (w5.setRow X (iVal st (z 1)).cells) := by
                        rw [run_storeV, show blk w5 X = _ from rX5]
                        exact storeOr_cells _ _ _ _ _ _ _ (cells_size _) (cells_size _) (ones_cells _)
                      refine reg_store (i := 8) (w' := w5.setRow X (iVal st (z 1)).cells) (by kernel_rfl) rfl rfl (by rfl) hst ⟨H6.tc, ac_of q6⟩ (fun hHeld => ?_)
                      try simp only [List.setIfInBounds_toArray, List.set_cons_zero, List.set_cons_succ]
                      refine wpAnyH_done (by kernel_rfl) ?_ _
                      clear hHeld H5 q5 rX5 T6
                      go_wp2_with fail
                      go_meet
                      case rel => exact ⟨rfl, H6, q6, rX6⟩
                case rest =>
                  as_aux_lemma =>
                    obtain ⟨rfl, H6, q6, rX6⟩ := hcut
                    clear H3 q3 rX3
                    have hne := has_ne st (z 1)
                    have O2 := O.iSaw (z 1)
                    have HH := Lib.hid (iHas_saw st (z 1))
                    have HV := Lib.hid (iVal_saw st (z 1))
                    have HT := Lib.hid (iSaw_twice st (z 1))
                    go_upto_region 26 with fail
                    have b0 : Below wc.heap.size wc wc.drew := below_drewN (Below.refl _ wc) 1
                    have H7 := H6.below b0
                    have q7 := aq_below q6 b0
                    have rX7 : blk wc.drew X = some (.cells (iVal st (z 1)).cells 47 (0, 0)) := (b0.block X (lt_of_heap rX6)).trans rX6
                    clear b0 H6 q6 rX6
                    refine wp_region_held_drew (S := fun W => TC t L.s L.v R.d R.q W ∧ AC G z W ∧ XC X (iVal st (z 1)) W) (by kernel_rfl) ⟨H7.tc, ac_of q7, xc_of rX7⟩ (fun hHeld => ?_)
                    generalize wc.drew = W7 at *
                    refine reg_take (i := 0) (v := ?_) rfl rfl (by kernel_rfl) (by kernel_rfl) (by kernel_rfl) (fun _ _ _ h => h) (by assumption) (by rfl) ?_ ?_
                    rotate_left 1
                    · (intro w hSw; (try dsimp only at hSw); go_simp; try with_reducible rfl)
                    try simp only [List.setIfInBounds_toArray, List.set_cons_zero, List.set_cons_succ]
                    refine reg_take (i := 1) (v := ?_) rfl rfl (by kernel_rfl) (by kernel_rfl) (by kernel_rfl) (fun _ _ _ h => h) (by assumption) (by rfl) ?_ ?_
                    rotate_left 1
                    · (intro w hSw; (try dsimp only at hSw); go_simp; try with_reducible rfl)
                    try simp only [List.setIfInBounds_toArray, List.set_cons_zero, List.set_cons_succ]
                    refine reg_take (i := 2) (v := ?_) rfl rfl (by kernel_rfl) (by kernel_rfl) (by kernel_rfl) (fun _ _ _ h => h) (by assumption) (by rfl) ?_ ?_
                    rotate_left 1
                    · (intro w hSw; (try dsimp only at hSw); go_simp; try with_reducible rfl)
                    try simp only [List.setIfInBounds_toArray, List.set_cons_zero, List.set_cons_succ]
                    refine reg_take (i := 3) (v := ?_) rfl rfl (by kernel_rfl) (by kernel_rfl) (by kernel_rfl) (fun _ _ _ h => h) (by assumption) (by rfl) ?_ ?_
                    rotate_left 1
                    · (intro w hSw; (try dsimp only at hSw); go_simp; try with_reducible rfl)
                    try simp only [List.setIfInBounds_toArray, List.set_cons_zero, List.set_cons_succ]
                    refine reg_take (i := 4) (v := ?_) rfl rfl (by kernel_rfl) (by kernel_rfl) (by kernel_rfl) (fun _ _ _ h => h) (by assumption) (by rfl) ?_ ?_
                    rotate_left 1
                    · (intro w hSw; (try dsimp only at hSw); go_simp; try with_reducible rfl)
                    try simp only [List.setIfInBounds_toArray, List.set_cons_zero, List.set_cons_succ]
                    refine reg_take (i := 5) (v := ?_) rfl rfl (by kernel_rfl) (by kernel_rfl) (by kernel_rfl) (fun _ _ _ h => h) (by assumption) (by rfl) ?_ ?_
                    rotate_left 1
                    · (intro w hSw; (try dsimp only at hSw); go_simp; try with_reducible rfl)
                    try simp only [List.setIfInBounds_toArray, List.set_cons_zero, List.set_cons_succ]
                    refine reg_take (i := 6) (v := ?_) rfl rfl (by kernel_rfl) (by kernel_rfl) (by kernel_rfl) (fun _ _ _ h => h) (by assumption) (by rfl) ?_ ?_
                    rotate_left 1
                    · (intro w hSw; (try dsimp only at hSw); go_simp; try with_reducible rfl)
                    try simp only [List.setIfInBounds_toArray, List.set_cons_zero, List.set_cons_succ]
                    refine reg_take (i := 7) (v := ?_) rfl rfl (by kernel_rfl) (by kernel_rfl) (by kernel_rfl) (fun _ _ _ h => h) (by assumption) (by rfl) ?_ ?_
                    rotate_left 1
                    · (intro w hSw; (try dsimp only at hSw); go_simp; try with_reducible rfl)
                    try simp only [List.setIfInBounds_toArray, List.set_cons_zero, List.set_cons_succ]
                    refine reg_take (i := 8) (v := ?_) rfl rfl (by kernel_rfl) (by kernel_rfl) (by kernel_rfl) (fun _ _ _ h => h) (by assumption) (by rfl) ?_ ?_
                    rotate_left 1
                    · (intro w hSw; (try dsimp only at hSw); go_simp; try with_reducible rfl)
                    try simp only [List.setIfInBounds_toArray, List.set_cons_zero, List.set_cons_succ]
                    refine reg_take (i := 10) (v := ?_) rfl rfl (by kernel_rfl) (by kernel_rfl) (by kernel_rfl) (fun _ _ _ h => h) (by assumption) (by rfl) ?_ ?_
                    rotate_left 1
                    · (intro w hSw; (try dsimp only at hSw); go_simp; try with_reducible rfl)
                    try simp only [List.setIfInBounds_toArray, List.set_cons_zero, List.set_cons_succ]
                    refine reg_take (i := 11) (v := ?_) rfl rfl (by kernel_rfl) (by kernel_rfl) (by kernel_rfl) (fun _ _ _ h => h) (by assumption) (by rfl) ?_ ?_
                    rotate_left 1
                    · (intro w hSw; (try dsimp only at hSw); go_simp; try with_reducible rfl)
                    try simp only [List.setIfInBounds_toArray, List.set_cons_zero, List.set_cons_succ]
                    refine reg_take (i := 12) (v := ?_) rfl rfl (by kernel_rfl) (by kernel_rfl) (by kernel_rfl) (fun _ _ _ h => h) (by assumption) (by rfl) ?_ ?_
                    rotate_left 1
                    · (intro w hSw; (try dsimp only at hSw); go_simp; try with_reducible rfl)
                    try simp only [List.setIfInBounds_toArray, List.set_cons_zero, List.set_cons_succ]
                    refine reg_take (i := 13) (v := ?_) rfl rfl (by kernel_rfl) (by kernel_rfl) (by kernel_rfl) (fun _ _ _ h => h) (by assumption) (by rfl) ?_ ?_
                    rotate_left 1
                    · (intro w hSw; (try dsimp only at hSw); go_simp; try with_reducible rfl)
                    try simp only [List.setIfInBounds_toArray, List.set_cons_zero, List.set_cons_succ]
                    refine reg_step (i := 9) (by kernel_rfl) rfl (by rfl) (fun KC hKC => ?_)
                    go_simp
                    refine (iis_any L st (z 1) _ H7.p.v).mono ?_; rintro e w8 ⟨rfl, hv8, t8⟩
                    have H8 := H7.left hv8 t8 (fun i q => by omega)
                    have q8 := H7.aqL q7 t8 (fun i q => by omega)
                    have rX8 := blk_of_turn t8 rX7 (show ¬ X = L.r by omega)
                    clear H7 q7 rX7 hv8 t8 hHeld
                    refine hKC.out _ _ ?_ (fun hHeld => ?_)
                    · exact ⟨H8.tc, ac_of q8, xc_of rX8⟩
                    clear hKC KC
                    refine reg_take (i := 14) (v := ?_) rfl rfl (by kernel_rfl) (by kernel_rfl) (by kernel_rfl) (fun _ _ _ h => h) (by assumption) (by rfl) ?_ ?_
                    rotate_left 1
                    · (intro w hSw; (try dsimp only at hSw); go_simp; try with_reducible rfl)
                    try simp only [List.setIfInBounds_toArray, List.set_cons_zero, List.set_cons_succ]
                    refine reg_take (i := 15) (v := ?_) rfl rfl (by kernel_rfl) (by kernel_rfl) (by kernel_rfl) (fun _ _ _ h => h) (by assumption) (by rfl) ?_ ?_
                    rotate_left 1
                    · (intro w hSw; (try dsimp only at hSw); go_simp; try with_reducible rfl)
                    try simp only [List.setIfInBounds_toArray, List.set_cons_zero, List.set_cons_succ]
                    refine reg_take (i := 16) (v := ?_) rfl rfl (by kernel_rfl) (by kernel_rfl) (by kernel_rfl) (fun _ _ _ h => h) (by assumption) (by rfl) ?_ ?_
                    rotate_left 1
                    · (intro w hSw; (try dsimp only at hSw); go_simp; try with_reducible rfl)
                    try simp only [List.setIfInBounds_toArray, List.set_cons_zero, List.set_cons_succ]
                    refine reg_take (i := 17) (v := ?_) rfl rfl (by kernel_rfl) (by kernel_rfl) (by kernel_rfl) (fun _ _ _ h => h) (by assumption) (by rfl) ?_ ?_
                    rotate_left 1
                    · (intro w hSw; (try dsimp only at hSw); go_simp; try with_reducible rfl)
                    try simp only [List.setIfInBounds_toArray, List.set_cons_zero, List.set_cons_succ]
                    refine reg_take (i := 18) (v := ?_) rfl rfl (by kernel_rfl) (by kernel_rfl) (by kernel_rfl) (fun _ _ _ h => h) (by assumption) (by rfl) ?_ ?_
                    rotate_left 1
                    · (intro w hSw; (try dsimp only at hSw); go_simp; try with_reducible rfl)
                    try simp only [List.setIfInBounds_toArray, List.set_cons_zero, List.set_cons_succ]
                    refine reg_take (i := 19) (v := ?_) rfl rfl (by kernel_rfl) (by kernel_rfl) (by kernel_rfl) (fun _ _ _ h => h) (by assumption) (by rfl) ?_ ?_
                    rotate_left 1
                    · (intro w hSw; (try dsimp only at hSw); go_simp; try with_reducible rfl)
                    try simp only [List.setIfInBounds_toArray, List.set_cons_zero, List.set_cons_succ]
                    refine reg_take (i := 20) (v := ?_) rfl rfl (by kernel_rfl) (by kernel_rfl) (by kernel_rfl) (fun _ _ _ h => h) (by assumption) (by rfl) ?_ ?_
                    rotate_left 1
                    · (intro w hSw; (try dsimp only at hSw); go_simp; try with_reducible rfl)
                    try simp only [List.setIfInBounds_toArray, List.set_cons_zero, List.set_cons_succ]
                    refine reg_take (i := 21) (v := ?_) rfl rfl (by kernel_rfl) (by kernel_rfl) (by kernel_rfl) (fun _ _ _ h => h) (by assumption) (by rfl) ?_ ?_
                    rotate_left 1
                    · (intro w hSw; (try dsimp only at hSw); go_simp; try with_reducible rfl)
                    try simp only [List.setIfInBounds_toArray, List.set_cons_zero, List.set_cons_succ]
                    refine reg_take (i := 22) (v := ?_) rfl rfl (by kernel_rfl) (by kernel_rfl) (by kernel_rfl) (fun _ _ _ h => h) (by assumption) (by rfl) ?_ ?_
                    rotate_left 1
                    · (intro w hSw; (try dsimp only at hSw); go_simp; try with_reducible rfl)
                    try simp only [List.setIfInBounds_toArray, List.set_cons_zero, List.set_cons_succ]
                    refine reg_take (i := 24) (v := ?_) rfl rfl (by kernel_rfl) (by kernel_rfl) (by kernel_rfl) (fun _ _ _ h => h) (by assumption) (by rfl) ?_ ?_
                    rotate_left 1
                    · (intro w hSw; (try dsimp only at hSw); go_simp; try with_reducible rfl)
                    try simp only [List.setIfInBounds_toArray, List.set_cons_zero, List.set_cons_succ]
                    refine reg_take (i := 25) (v := ?_) rfl rfl (by kernel_rfl) (by kernel_rfl) (by kernel_rfl) (fun _ _ _ h => h) (by assumption) (by rfl) ?_ ?_
                    rotate_left 1
                    · (intro w hSw; (try dsimp only at hSw); go_simp; try with_reducible rfl)
                    try simp only [List.setIfInBounds_toArray, List.set_cons_zero, List.set_cons_succ]
                    refine reg_take (i := 26) (v := ?_) rfl rfl (by kernel_rfl) (by kernel_rfl) (by kernel_rfl) (fun _ _ _ h => h) (by assumption) (by rfl) ?_ ?_
                    rotate_left 1
                    · (intro w hSw; (try dsimp only at hSw); go_simp; try with_reducible rfl)
                    try simp only [List.setIfInBounds_toArray, List.set_cons_zero, List.set_cons_succ]
                    refine reg_step (i := 23) (by kernel_rfl) rfl (by rfl) (fun KC hKC => ?_)
                    go_simp
                    refine (itype_any L (iSaw st (z 1)) (z 1) _ H8.p.v).mono ?_; rintro e w9 ⟨rfl, hv9, t9⟩
                    rw [HT.out] at hv9
                    rw [HV.out]
                    have H9 := H8.left hv9 t9 (fun i q => by omega)
                    have q9 := H8.aqL q8 t9 (fun i q => by omega)
                    have rX9 := blk_of_turn t9 rX8 (show ¬ X = L.r by omega)
                    clear H8 q8 rX8 hv9 t9 hHeld
                    refine hKC.out _ _ ?_ (fun hHeld => ?_)
                    · exact ⟨H9.tc, ac_of q9, xc_of rX9⟩
                    clear hKC KC
                    refine reg_take (i := 27) (v := ?_) rfl rfl (by kernel_rfl) (by kernel_rfl) (by kernel_rfl) (fun _ _ _ h => h) (by assumption) (by rfl) ?_ ?_
                    rotate_left 1
                    · (intro w hSw; (try dsimp only at hSw); go_simp; try with_reducible rfl)
                    try simp only [List.setIfInBounds_toArray, List.set_cons_zero, List.set_cons_succ]
                    refine reg_take (i := 28) (v := ?_) rfl rfl (by kernel_rfl) (by kernel_rfl) (by kernel_rfl) (fun _ _ _ h => h) (by assumption) (by rfl) ?_ ?_
                    rotate_left 1
                    · (intro w hSw; (try dsimp only at hSw); go_simp; try with_reducible rfl)
                    try simp only [List.setIfInBounds_toArray, List.set_cons_zero, List.set_cons_succ]
                    refine reg_take (i := 29) (v := ?_) rfl rfl (by kernel_rfl) (by kernel_rfl) (by kernel_rfl) (fun _ _ _ h => h) (by assumption) (by rfl) ?_ ?_
                    rotate_left 1
                    · (intro w hSw; (try dsimp only at hSw); go_simp; try with_reducible rfl)
                    try simp only [List.setIfInBounds_toArray, List.set_cons_zero, List.set_cons_succ]
                    refine reg_take (i := 30) (v := ?_) rfl rfl (by kernel_rfl) (by kernel_rfl) (by kernel_rfl) (fun _ _ _ h => h) (by assumption) (by rfl) ?_ ?_
                    rotate_left 1
                    · (intro w hSw; (try dsimp only at hSw); go_simp; try with_reducible rfl)
                    try simp only [List.setIfInBounds_toArray, List.set_cons_zero, List.set_cons_succ]
                    refine reg_take (i := 31) (v := ?_) rfl rfl (by kernel_rfl) (by kernel_rfl) (by kernel_rfl) (fun _ _ _ h => h) (by assumption) (by rfl) ?_ ?_
                    rotate_left 1
                    · (intro w hSw; (try dsimp only at hSw); go_simp; try with_reducible rfl)
                    try simp only [List.setIfInBounds_toArray, List.set_cons_zero, List.set_cons_succ]
                    refine reg_take (i := 32) (v := ?_) rfl rfl (by kernel_rfl) (by kernel_rfl) (by kernel_rfl) (fun _ _ _ h => h) (by assumption) (by rfl) ?_ ?_
                    rotate_left 1
                    · (intro w hSw; (try dsimp only at hSw); go_simp; try with_reducible rfl)
                    try simp only [List.setIfInBounds_toArray, List.set_cons_zero, List.set_cons_succ]
                    refine reg_take (i := 33) (v := ?_) rfl rfl (by kernel_rfl) (by kernel_rfl) (by kernel_rfl) (fun _ _ _ h => h) (by assumption) (by rfl) ?_ ?_
                    rotate_left 1
                    · (intro w hSw; (try dsimp only at hSw); go_simp; try with_reducible rfl)
                    try simp only [List.setIfInBounds_toArray, List.set_cons_zero, List.set_cons_succ]
                    refine reg_take (i := 34) (v := ?_) rfl rfl (by kernel_rfl) (by kernel_rfl) (by kernel_rfl) (fun _ _ _ h => h) (by assumption) (by rfl) ?_ ?_
                    rotate_left 1
                    · (intro w hSw; (try dsimp only at hSw); go_simp; try with_reducible rfl)
                    try simp only [List.setIfInBounds_toArray, List.set_cons_zero, List.set_cons_succ]
                    refine reg_take (i := 35) (v := ?_) rfl rfl (by kernel_rfl) (by kernel_rfl) (by kernel_rfl) (fun _ _ _ h => h) (by assumption) (by rfl) ?_ ?_
                    rotate_left 1
                    · (intro w hSw; (try dsimp only at hSw); go_simp; try with_reducible rfl)
                    try simp only [List.setIfInBounds_toArray, List.set_cons_zero, List.set_cons_succ]
                    refine reg_take (i := 37) (v := ?_) rfl rfl (by kernel_rfl) (by kernel_rfl) (by kernel_rfl) (fun _ _ _ h => h) (by assumption) (by rfl) ?_ ?_
                    rotate_left 1
                    · (intro w hSw; (try dsimp only at hSw); go_simp; try with_reducible rfl)
                    try simp only [List.setIfInBounds_toArray, List.set_cons_zero, List.set_cons_succ]
                    refine reg_take (i := 38) (v := ?_) rfl rfl (by kernel_rfl) (by kernel_rfl) (by kernel_rfl) (fun _ _ _ h => h) (by assumption) (by rfl) ?_ ?_
                    rotate_left 1
                    · (intro w hSw; (try dsimp only at hSw); go_simp; try with_reducible rfl)
                    try simp only [List.setIfInBounds_toArray, List.set_cons_zero, List.set_cons_succ]
                    refine reg_take (i := 39) (v := ?_) rfl rfl (by kernel_rfl) (by kernel_rfl) (by kernel_rfl) (fun _ _ _ h => h) (by assumption) (by rfl) ?_ ?_
                    rotate_left 1
                    · (intro w hSw; (try dsimp only at hSw); go_simp; try with_reducible rfl)
                    try simp only [List.setIfInBounds_toArray, List.set_cons_zero, List.set_cons_succ]
                    refine reg_step (i := 36) (by kernel_rfl) rfl (by rfl) (fun KC hKC => ?_)
                    go_simp
                    refine (ilinks_any L (iSaw st (z 1)) (z 1) _ H9.p.v).mono ?_; rintro e w10 ⟨rfl, hv10, t10⟩
                    rw [HT.out] at hv10
                    rw [HV.out]
                    have H10 := H9.left hv10 t10 (fun i q => by omega)
                    have q10 := H9.aqL q9 t10 (fun i q => by omega)
                    have rX10 := blk_of_turn t10 rX9 (show ¬ X = L.r by omega)
                    clear H9 q9 rX9 hv10 t10 hHeld
                    refine hKC.out _ _ ?_ (fun hHeld => ?_)
                    · exact ⟨H10.tc, ac_of q10, xc_of rX10⟩
                    clear hKC KC
                    refine reg_take (i := 40) (v := ?_) rfl rfl (by kernel_rfl) (by kernel_rfl) (by kernel_rfl) (fun _ _ _ h => h) (by assumption) (by rfl) ?_ ?_
                    rotate_left 1
                    · (intro w hSw; (try dsimp only at hSw); go_simp; try with_reducible rfl)
                    try simp only [List.setIfInBounds_toArray, List.set_cons_zero, List.set_cons_succ]
                    refine reg_take (i := 41) (v := ?_) rfl rfl (by kernel_rfl) (by kernel_rfl) (by kernel_rfl) (fun _ _ _ h => h) (by assumption) (by rfl) ?_ ?_
                    rotate_left 1
                    · (intro w hSw; (try dsimp only at hSw); go_simp; try with_reducible rfl)
                    try simp only [List.setIfInBounds_toArray, List.set_cons_zero, List.set_cons_succ]
                    refine reg_take (i := 42) (v := ?_) rfl rfl (by kernel_rfl) (by kernel_rfl) (by kernel_rfl) (fun _ _ _ h => h) (by assumption) (by rfl) ?_ ?_
                    rotate_left 1
                    · (intro w hSw; (try dsimp only at hSw); go_simp; try with_reducible rfl)
                    try simp only [List.setIfInBounds_toArray, List.set_cons_zero, List.set_cons_succ]
                    refine reg_take (i := 43) (v := ?_) rfl rfl (by kernel_rfl) (by kernel_rfl) (by kernel_rfl) (fun _ _ _ h => h) (by assumption) (by rfl) ?_ ?_
                    rotate_left 1
                    · (intro w hSw; (try dsimp only at hSw); go_simp; try with_reducible rfl)
                    try simp only [List.setIfInBounds_toArray, List.set_cons_zero, List.set_cons_succ]
                    refine reg_take (i := 44) (v := ?_) rfl rfl (by kernel_rfl) (by kernel_rfl) (by kernel_rfl) (fun _ _ _ h => h) (by assumption) (by rfl) ?_ ?_
                    rotate_left 1
                    · (intro w hSw; (try dsimp only at hSw); go_simp; try with_reducible rfl)
                    try simp only [List.setIfInBounds_toArray, List.set_cons_zero, List.set_cons_succ]
                    refine reg_take (i := 45) (v := ?_) rfl rfl (by kernel_rfl) (by kernel_rfl) (by kernel_rfl) (fun _ _ _ h => h) (by assumption) (by rfl) ?_ ?_
                    rotate_left 1
                    · (intro w hSw; (try dsimp only at hSw); go_simp; try with_reducible rfl)
                    try simp only [List.setIfInBounds_toArray, List.set_cons_zero, List.set_cons_succ]
                    refine reg_take (i := 46) (v := ?_) rfl rfl (by kernel_rfl) (by kernel_rfl) (by kernel_rfl) (fun _ _ _ h => h) (by assumption) (by rfl) ?_ ?_
                    rotate_left 1
                    · (intro w hSw; (try dsimp only at hSw); go_simp; try with_reducible rfl)
                    try simp only [List.setIfInBounds_toArray, List.set_cons_zero, List.set_cons_succ]
                    refine reg_take (i := 47) (v := ?_) rfl rfl (by kernel_rfl) (by kernel_rfl) (by kernel_rfl) (fun _ _ _ h => h) (by assumption) (by rfl) ?_ ?_
                    rotate_left 1
                    · (intro w hSw; (try dsimp only at hSw); go_simp; try with_reducible rfl)
                    try simp only [List.setIfInBounds_toArray, List.set_cons_zero, List.set_cons_succ]
                    refine reg_take (i := 48) (v := ?_) rfl rfl (by kernel_rfl) (by kernel_rfl) (by kernel_rfl) (fun _ _ _ h => h) (by assumption) (by rfl) ?_ ?_
                    rotate_left 1
                    · (intro w hSw; (try dsimp only at hSw); go_simp; try with_reducible rfl)
                    try simp only [List.setIfInBounds_toArray, List.set_cons_zero, List.set_cons_succ]
                    refine reg_take (i := 50) (v := ?_) rfl rfl (by kernel_rfl) (by kernel_rfl) (by kernel_rfl) (fun _ _ _ h => h) (by assumption) (by rfl) ?_ ?_
                    rotate_left 1
                    · (intro w hSw; (try dsimp only at hSw); go_simp; try with_reducible rfl)
                    try simp only [List.setIfInBounds_toArray, List.set_cons_zero, List.set_cons_succ]
                    refine reg_take (i := 51) (v := ?_) rfl rfl (by kernel_rfl) (by kernel_rfl) (by kernel_rfl) (fun _ _ _ h => h) (by assumption) (by rfl) ?_ ?_
                    rotate_left 1
                    · (intro w hSw; (try dsimp only at hSw); go_simp; try with_reducible rfl)
                    try simp only [List.setIfInBounds_toArray, List.set_cons_zero, List.set_cons_succ]
                    refine reg_take (i := 52) (v := ?_) rfl rfl (by kernel_rfl) (by kernel_rfl) (by kernel_rfl) (fun _ _ _ h => h) (by assumption) (by rfl) ?_ ?_
                    rotate_left 1
                    · (intro w hSw; (try dsimp only at hSw); go_simp; try with_reducible rfl)
                    try simp only [List.setIfInBounds_toArray, List.set_cons_zero, List.set_cons_succ]
                    refine reg_step (i := 49) (by kernel_rfl) rfl (by rfl) (fun KC hKC => ?_)
                    go_simp
                    refine (isize_any L (iSaw st (z 1)) (z 1) _ H10.p.v).mono ?_; rintro e w11 ⟨rfl, hv11, t11⟩
                    rw [HT.out] at hv11
                    rw [HV.out]
                    have H11 := H10.left hv11 t11 (fun i q => by omega)
                    have q11 := H10.aqL q10 t11 (fun i q => by omega)
                    have rX11 := blk_of_turn t11 rX10 (show ¬ X = L.r by omega)
                    clear H10 q10 rX10 hv11 t11 hHeld
                    refine hKC.out _ _ ?_ (fun hHeld => ?_)
                    · exact ⟨H11.tc, ac_of q11, xc_of rX11⟩
                    clear hKC KC
                    refine reg_take (i := 53) (v := ?_) rfl rfl (by kernel_rfl) (by kernel_rfl) (by kernel_rfl) (fun _ _ _ h => h) (by assumption) (by rfl) ?_ ?_
                    rotate_left 1
                    · (intro w hSw; (try dsimp only at hSw); go_simp; try with_reducible rfl)
                    try simp only [List.setIfInBounds_toArray, List.set_cons_zero, List.set_cons_succ]
                    refine reg_take (i := 54) (v := ?_) rfl rfl (by kernel_rfl) (by kernel_rfl) (by kernel_rfl) (fun _ _ _ h => h) (by assumption) (by rfl) ?_ ?_
                    rotate_left 1
                    · (intro w hSw; (try dsimp only at hSw); go_simp; try with_reducible rfl)
                    try simp only [List.setIfInBounds_toArray, List.set_cons_zero, List.set_cons_succ]
                    refine reg_take (i := 55) (v := ?_) rfl rfl (by kernel_rfl) (by kernel_rfl) (by kernel_rfl) (fun _ _ _ h => h) (by assumption) (by rfl) ?_ ?_
                    rotate_left 1
                    · (intro w hSw; (try dsimp only at hSw); go_simp; try with_reducible rfl)
                    try simp only [List.setIfInBounds_toArray, List.set_cons_zero, List.set_cons_succ]
                    refine reg_take (i := 56) (v := ?_) rfl rfl (by kernel_rfl) (by kernel_rfl) (by kernel_rfl) (fun _ _ _ h => h) (by assumption) (by rfl) ?_ ?_
                    rotate_left 1
                    · (intro w hSw; (try dsimp only at hSw); go_simp; try with_reducible rfl)
                    try simp only [List.setIfInBounds_toArray, List.set_cons_zero, List.set_cons_succ]
                    refine reg_step (i := 57) (by kernel_rfl) rfl (by rfl) (fun KC hKC => ?_)
                    go_simp
                    refine (dsame_any H11 O2.v).mono ?_; rintro e w12 ⟨rfl, t12⟩
                    have H12 := H11.below t12
                    have q12 := aq_below q11 t12
                    have rX12 := (t12.block X (lt_of_heap rX11)).trans rX11
                    clear H11 q11 rX11 t12 hHeld
                    refine hKC.out _ _ ?_ (fun hHeld => ?_)
                    · exact ⟨H12.tc, ac_of q12, xc_of rX12⟩
                    clear hKC KC
                    refine reg_take (i := 58) (v := ?_) rfl rfl (by kernel_rfl) (by kernel_rfl) (by kernel_rfl) (fun _ _ _ h => h) (by assumption) (by rfl) ?_ ?_
                    rotate_left 1
                    · (intro w hSw; (try dsimp only at hSw); go_simp; try with_reducible rfl)
                    try simp only [List.setIfInBounds_toArray, List.set_cons_zero, List.set_cons_succ]
                    refine reg_take (i := 59) (v := ?_) rfl rfl (by kernel_rfl) (by kernel_rfl) (by kernel_rfl) (fun _ _ _ h => h) (by assumption) (by rfl) ?_ ?_
                    rotate_left 1
                    · (intro w hSw; (try dsimp only at hSw); go_simp; try with_reducible rfl)
                    try simp only [List.setIfInBounds_toArray, List.set_cons_zero, List.set_cons_succ]
                    refine wpAnyH_done (by kernel_rfl) ?_ _
                    clear hHeld q12 rX12 hne
                    go_wp2_with fail
                    exact ⟨⟨rfl, j + 1, by omega, by go_num, _, L, R, H12, O2⟩, by simp [intOf]; omega⟩
          · go_wp2_with fail
            go_meet
            case rel => exact ⟨rfl, st, L, R, H, O⟩
        · have l1 : ¬ (j : Int) < (len1 : Int) := by omega
          go_wp2_with fail
          go_meet
          case rel => exact ⟨rfl, st, L, R, H, O⟩
  case rest =>
    clear I0 w1
    obtain ⟨rfl, st, L, R, H, O⟩ := hcut
    as_aux_lemma =>
      go_wp2_with fail
      refine (dput_any w t L R st _ H O.v).mono ?_; rintro e w3 ⟨rfl, L', R', H3, _⟩
      go_wp2_with fail
      refine (dstores_any H3 rfl).mono ?_; rintro e w4 ⟨rfl, t4⟩
      have H4 := H3.below t4
      go_wp2_with fail
      refine (iruns_any _).mono ?_; rintro e w5 ⟨rfl, t5⟩
      go_wp2_with fail
      go_ret
      exact ⟨rfl, (H4.below t5).p.b⟩
end Go.Proofs.Ytfcgkjbifnhjjaa.St
