/- The contract of inode.Alloc over a view in memory. No condition but those written in each statement. -/
import Derived.Test.YtfcgkjbifnhjjaaInoB
namespace Go.Proofs.Ytfcgkjbifnhjjaa.St
open Go.RowKit
set_option linter.unusedVariables false

attribute [local go_sem] blk_alloc_at blk_alloc_past blk_drew blk_drewN blk_setB_same blk_setB_other blk_setRow_other setRow_alloc_at setRow_alloc_past setRow_drewN setRow_drew setB_size setB_cell setB_frozen setB_alloc_past setB_drewN setB_drew run_loadV loadOr_cells run_storeV storeOr_cells cells_size ones_cells cells_0 cells_1 cells_2 cells_16 cells_g0 cells_g1 cells_g2 cells_g16 cells_set0 cells_set1 cells_set2 cells_text
attribute [local go_sem ↓] execOp_loadV execOp_storeV
attribute [local go_sem ↓] wp_at0 wp_at1 wp_at2 wp_at3 wp_at4 wp_at5 wp_at6 wp_at7

/-- Is bit j of a number set, as the code asks it? -/
def usedI (x : Int) (j : Nat) : Bool := bits BinOp.and IntKind.i64 (x / 2 ^ j) 1 == 1
/-- The number with bit j set, as the code does it. -/
def markI (x : Int) (j : Nat) : Int := bits BinOp.or IntKind.i64 x (wrap64 (2 ^ j))
/-- The least j from 16 - d on, below 16, whose bit is not set; 16: none. -/
def freeN (x : Int) : Nat → Nat
  | 0 => 16
  | d + 1 => if usedI x (15 - d) = true then freeN x d else 15 - d
def iFree (st : VSt) : Nat := freeN ((st.get 9 0).n 0) 15
def iTake (st : VSt) (j : Nat) (t : Int) : VSt := ((st.saw 9 0).put 9 0 ((st.get 9 0).set 0 (markI ((st.get 9 0).n 0) j))).put 10 j (Val.zero.set 0 t)
def iAlloc (st : VSt) (t : Int) : VSt := if iFree st < 16 then iTake st (iFree st) t else st.saw 9 0
def iGot (st : VSt) : Int := if iFree st < 16 then (iFree st : Int) else 0

theorem freeN_hit (x : Int) (j : Nat) (h : j < 16) (hb : usedI x j = false) : freeN x (16 - j) = j := by
  have e : 16 - j = (15 - j) + 1 := by omega
  rw [e, freeN, show 15 - (15 - j) = j by omega, hb]
  rfl
theorem freeN_past (x : Int) (j : Nat) (h : j < 16) (hb : usedI x j = true) : freeN x (16 - j) = freeN x (16 - (j + 1)) := by
  have e : 16 - j = (15 - j) + 1 := by omega
  rw [e, freeN, show 15 - (15 - j) = j by omega, if_pos hb, show 16 - (j + 1) = 15 - j by omega]

theorem markI_def (x : Int) (j : Nat) : bits BinOp.or IntKind.i64 x (wrap64 (2 ^ j)) = markI x j := by rw [markI]

theorem ialloc_any (L : Lay) (st : VSt) (t : Int) (w : World) (hV : ViewAt w L st) :
    Calls Try.prog 6 #[.pointer (some ⟨L.v, 0, none⟩), .int .i64 t] w fun e w' => e = .returned (.tuple #[.int .i64 (iGot st), .bool (decide (iFree st < 16))]) ∧ ViewAt w' L (iAlloc st t) ∧ Turn (fun k => k = L.r ∨ k = L.m) w w' := by
  have lt := hV.lts
  have hz := zero_val
  go_enter Try.func6, Try.ntmps6
  go_wp2_with fail
  refine (itable_any _).mono ?_; rintro e w1 ⟨rfl, t1⟩
  have hv1 := hV.below t1
  go_wp2_with fail
  refine (vget_any L st 9 0 _ hv1).mono ?_; rintro e w2 ⟨rfl, hv2, t2⟩
  have t2' := (Turn.of_below t1 _).trans t2
  generalize hx : st.get 9 0 = x at *
  go_wp2_with fail
  have hv3 : ViewAt (w2.alloc (Obj.cells x.cells 47)) L (st.saw 9 0) := hv2.below ((Below.refl _ _).alloc (Nat.le_refl _) _)
  have b3 : blk (w2.alloc (Obj.cells x.cells 47)) w2.heap.size = some (.cells x.cells 47 (0, 0)) := blk_alloc_at _ _ _ rfl
  have s3 : w2.heap.size < (w2.alloc (Obj.cells x.cells 47)).heap.size := by simp
  have t3 := t2'.alloc (Obj.cells x.cells 47)
  have f3 := frozen_blk b3 0
  have c0 := cell_of_row _ _ 0 _ _ _ b3
  rw [cells_0] at c0
  generalize (w2.alloc (Obj.cells x.cells 47)) = W3 at *
  have hB0 : w.heap.size ≤ w2.heap.size := t2'.size
  generalize w2.heap.size = B at *
  go_loop [7] (fun i => ∃ j : Nat, 1 ≤ j ∧ j ≤ 16 ∧ i = .int .i64 (j : Int) ∧ iFree st = freeN (x.n 0) (16 - j)) (fun i => 16 - (intOf i).toNat)
  case atStart => exact ⟨1, by omega, by omega, rfl, by unfold iFree; rw [hx]⟩
  case round =>
    obtain ⟨j, j1, j2, rfl, hfree⟩ := hrel
    by_cases hlt : j < 16
    · cases hbit : (bits BinOp.and IntKind.i64 (x.n 0 / 2 ^ j) 1 == 1)
      · have hj : (j : Int) < 16 := by omega
        go_wp2_with fail
        have hf : iFree st = j := hfree.trans (freeN_hit _ _ hlt hbit)
        have b4 := blk_setCell_same b3 0 (Value.int IntKind.i64 (markI (x.n 0) j))
        rw [cells_set0] at b4
        rw [markI_def]
        have tl : Turn (fun k => w.heap.size ≤ k) W3 (W3.setCell ⟨B, 0, none⟩ (Value.int IntKind.i64 (markI (x.n 0) j))) := (Turn.refl _ _).setCell (Or.inl (show w.heap.size ≤ B by omega)) _
        have hv4 := hv3.off tl lt
        have t4 := t3.offS tl (Nat.le_refl _)
        have s4 : B < (W3.setCell ⟨B, 0, none⟩ (Value.int IntKind.i64 (markI (x.n 0) j))).heap.size := blk_lt b4
        generalize hy : x.set 0 (markI (x.n 0) j) = y at *
        generalize W3.setCell ⟨B, 0, none⟩ (Value.int IntKind.i64 (markI (x.n 0) j)) = W4 at *
        clear c0 f3 b3
        have b4d : blk W4.drew B = some (.cells y.cells 47 (0, 0)) := by rw [blk_drew]; exact b4
        have v4d : ViewAt W4.drew L (st.saw 9 0) := hv4.off (Turn.refl _ _).drew lt
        have s4d : B < W4.drew.heap.size := s4
        clear hv4
        go_region_with (first
          | (go_at_call 43; refine (itable_any _).mono ?_; rintro e w5 ⟨rfl, t5⟩; have b5 := blk_below t5 b4d s4d; have v5 := v4d.below t5; have r5 := t5.size)
          | (go_at_call 44; refine (vput_any L (st.saw 9 0) 9 0 y _ (by assumption)).mono ?_; rintro e w6 ⟨rfl, hv6, t6⟩))
        all_goals
          have t6' : Turn (fun k => k = L.r ∨ k = L.m) w w6 := (((t4.mono fun _ _ => Or.inl).drew).trans (Turn.of_below t5 _)).trans (t6.mono fun _ _ => Or.inr)
          clear t1 hv1 t2 t2' hv3 t3 tl t4 b4 b4d v4d s4d t5 b5 v5 r5 t6
          go_wp2_with fail
          have b7 : blk (w6.alloc (Obj.cells (Val.zero.set 0 t).cells 47)) w6.heap.size = some (.cells (Val.zero.set 0 t).cells 47 (0, 0)) := blk_alloc_at _ _ _ rfl
          have b7d : blk (w6.alloc (Obj.cells (Val.zero.set 0 t).cells 47)).drew w6.heap.size = some (.cells (Val.zero.set 0 t).cells 47 (0, 0)) := by rw [blk_drew]; exact b7
          have v7d : ViewAt (w6.alloc (Obj.cells (Val.zero.set 0 t).cells 47)).drew L ((st.saw 9 0).put 9 0 y) := (hv6.below ((Below.refl _ _).alloc (Nat.le_refl _) _)).off (Turn.refl _ _).drew lt
          have t7 := (t6'.alloc (Obj.cells (Val.zero.set 0 t).cells 47)).drew
          have s7d : w6.heap.size < (w6.alloc (Obj.cells (Val.zero.set 0 t).cells 47)).drew.heap.size := blk_lt b7d
          generalize w6.alloc (Obj.cells (Val.zero.set 0 t).cells 47) = W7 at *
          generalize w6.heap.size = C at *
          clear s3 s4 t6' hv6
          go_region_with (first
            | (go_at_call 45; refine (ikey_any j _).mono ?_; rintro e w8 ⟨rfl, t8⟩; have b8 := blk_below t8 b7d s7d; have v8 := v7d.below t8; have r8 := t8.size)
            | (go_at_call 44; refine (vput_any L ((st.saw 9 0).put 9 0 y) 10 j (Val.zero.set 0 t) _ (by assumption)).mono ?_; rintro e w9 ⟨rfl, hv9, t9⟩))
          all_goals
            clear b7 b7d v7d b8 v8
            go_wp2_with fail
            go_ret2
            refine ⟨by unfold iGot; rw [hf, if_pos hlt]; simp [hlt], by unfold iAlloc iTake; rw [hf, if_pos hlt, hx, hy]; exact hv9, (t7.trans (Turn.of_below t8 _)).trans (t9.mono fun _ _ => Or.inr)⟩
      · go_wp2_with fail
        go_round
        case rel => exact ⟨j + 1, by omega, by omega, by go_num, hfree.trans (freeN_past _ _ hlt hbit)⟩
        case measure => simp [intOf]; omega
    · obtain rfl : j = 16 := by omega
      go_wp2_with fail
      go_ret2
      have hf : iFree st = 16 := hfree
      refine ⟨by unfold iGot; rw [hf]; rfl, by unfold iAlloc; rw [hf]; exact hv3, t3.mono fun _ _ => Or.inl⟩
end Go.Proofs.Ytfcgkjbifnhjjaa.St
