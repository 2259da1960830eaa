/- The contract of pipe.Alloc over a view in memory. No condition but those written in each statement. -/
import Derived.Test.YtdlcbclfniahoaaPipB
namespace Go.Proofs.Ytdlcbclfniahoaa.St
open Go.RowKit
set_option linter.unusedVariables false

attribute [local go_sem] blk_alloc_at blk_alloc_past blk_drew blk_drewN blk_setB_same blk_setB_other blk_setRow_other setRow_alloc_at setRow_alloc_past setRow_drewN setRow_drew setB_size setB_cell setB_frozen setB_alloc_past setB_drewN setB_drew run_loadV loadOr_cells run_storeV storeOr_cells cells_size ones_cells cells_0 cells_1 cells_2 cells_16 cells_g0 cells_g1 cells_g2 cells_g16 cells_set0 cells_set1 cells_set2 cells_text
attribute [local go_sem ↓] execOp_loadV execOp_storeV
attribute [local go_sem ↓] wp_at0 wp_at1 wp_at2 wp_at3 wp_at4 wp_at5 wp_at6 wp_at7
attribute [local go_sem] run_fieldN run_indexN

/-- The least pipe from 4 - d on that isn't used; 4: none. -/
def freeP (x : Int) : Nat → Nat
  | 0 => 4
  | d + 1 => if usedI x (3 - d) = true then freeP x d else 3 - d
def pFree (st : VSt) : Nat := freeP ((st.get 7 0).n 0) 4
def pNew : Val := (Val.zero.set 0 1).set 1 1
def pAlloc (st : VSt) : VSt := if pFree st < 4 then (pMark (st.saw 7 0) (pFree st) true).put 8 (pFree st) pNew else st.saw 7 0
def pGot (st : VSt) : Int := if pFree st < 4 then (pFree st : Int) else 0

theorem freeP_hit (x : Int) (j : Nat) (h : j < 4) (hb : usedI x j = false) : freeP x (4 - j) = j := by
  have e : 4 - j = (3 - j) + 1 := by omega
  rw [e, freeP, show 3 - (3 - j) = j by omega, hb]
  rfl
theorem freeP_past (x : Int) (j : Nat) (h : j < 4) (hb : usedI x j = true) : freeP x (4 - j) = freeP x (4 - (j + 1)) := by
  have e : 4 - j = (3 - j) + 1 := by omega
  rw [e, freeP, show 3 - (3 - j) = j by omega, if_pos hb, show 4 - (j + 1) = 3 - j by omega]

attribute [local irreducible] Int.lt Int.le
set_option maxRecDepth 20000 in
theorem palloc_any (L : Lay) (st : VSt) (w : World) (hV : ViewAt w L st) :
    Calls Try.prog 22 #[.pointer (some ⟨L.v, 0, none⟩)] w fun e w' => e = .returned (.tuple #[.int .i64 (pGot st), .bool (decide (pFree st < 4))]) ∧ ViewAt w' L (pAlloc st) ∧ Turn (fun k => k = L.r ∨ k = L.m) w w' := by
  have lt := hV.lts
  have hz := zero_val
  go_enter Try.func22, Try.ntmps22
  go_wp2_with fail
  refine (ptable_any _).mono ?_; rintro e w1 ⟨rfl, t1⟩
  have hv1 := hV.below t1
  go_wp2_with fail
  refine (vget_any L st 7 0 _ hv1).mono ?_; rintro e w2 ⟨rfl, hv2, t2⟩
  have t2' := (Turn.of_below t1 _).trans t2
  generalize hx : st.get 7 0 = x at *
  clear t1 hv1 t2
  go_wp2_with fail
  go_loop [12] (fun i => ∃ j : Nat, j ≤ 4 ∧ i = .int .i64 (j : Int) ∧ pFree st = freeP (x.n 0) (4 - j)) (fun i => 4 - (intOf i).toNat)
  case atStart => exact ⟨0, by omega, rfl, by unfold pFree; rw [hx]⟩
  case round =>
    obtain ⟨j, j2, rfl, hfree⟩ := hrel
    by_cases hlt : j < 4
    · have l0 : (0 : Int) ≤ (j : Int) := by omega
      have l1 : (j : Int) < 4 := by omega
      cases hbit : (bits BinOp.and IntKind.i64 (x.n 0 / 2 ^ j) 1 == 1)
      · go_wp2_with fail
        have hf : pFree st = j := hfree.trans (freeP_hit _ _ hlt (by rw [← usedI_def]; exact hbit))
        refine (pmark_any L (st.saw 7 0) j true hlt _ hv2).mono ?_; rintro e w3 ⟨rfl, hv3, t3⟩
        have t3' := (t2'.mono fun _ _ => Or.inl).trans t3
        clear hv2 t2' t3 hbit
        go_upto_region 8 with fail
        obtain ⟨z, hz0⟩ : ∃ z, z = Val.zero := ⟨_, rfl⟩
        rw [← hz0]
        have hy0 : (z.set 0 1).set 1 1 = pNew := by rw [hz0, pNew]
        clear hz0 hz
        go_upto_region 9 with fail
        try rw [hy0]
        clear hy0
        generalize hy : pNew = y at *
        have b2 : blk (w3.alloc (Obj.cells y.cells 58)) w3.heap.size = some (.cells y.cells 58 (0, 0)) := blk_alloc_at _ _ _ rfl
        have hv4 := hv3.alloc (Obj.cells y.cells 58)
        have t4 := t3'.alloc (Obj.cells y.cells 58)
        clear hv3 t3'
        generalize w3.alloc (Obj.cells y.cells 58) = W2 at *
        generalize w3.heap.size = B at *
        obtain ⟨bd, vd, sd⟩ := at_drew b2 hv4
        go_region_with (first
          | (go_at_call 47; refine (pkey_any j _).mono ?_; rintro e w8 ⟨rfl, t8⟩; have b8 := blk_below t8 bd sd; have v8 := vd.below t8; have r8 := t8.size)
          | (go_at_call 25; refine (vput_any L (pMark (st.saw 7 0) j true) 8 j y _ (by assumption)).mono ?_; rintro e w9 ⟨rfl, hv9, t9⟩))
        all_goals
          clear b2 hv4 bd vd b8 v8
          go_wp2_with fail
          go_ret2
          refine ⟨by unfold pGot; rw [hf, if_pos hlt]; simp [hlt], by unfold pAlloc; rw [hf, if_pos hlt, hy]; exact hv9, (t4.drew.trans (Turn.of_below t8 _)).trans (t9.mono fun _ _ => Or.inr)⟩
      · go_wp2_with fail
        go_round
        case rel => exact ⟨j + 1, by omega, by go_num, hfree.trans (freeP_past _ _ hlt (by rw [← usedI_def]; exact hbit))⟩
        case measure => simp [intOf]; omega
    · obtain rfl : j = 4 := by omega
      go_wp2_with fail
      go_ret2
      have hf : pFree st = 4 := hfree
      refine ⟨by unfold pGot; rw [hf]; rfl, by unfold pAlloc; rw [hf]; exact hv2, t2'.mono fun _ _ => Or.inl⟩
end Go.Proofs.Ytdlcbclfniahoaa.St
