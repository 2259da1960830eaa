/- The contracts of package pipe: key, table, Is, mark, over a view in memory. The contract of pipe.mark over a view in memory. The contract of pipe.Alloc over a view in memory. The contracts of pipe.Read and pipe.Write over a view in memory. The contract of pipe.Write over a view in memory. The contract of pipe.Ends over a view in memory. No condition but those written in each statement. -/
import Derived.Test.YtfcgkjbifnhjjaaInoD
import Derived.Deep.RegionWith
import Derived.Deep.Cut
import Derived.Test.YtfcgkjbifnhjjaaInoF
import Derived.Laws.Closers25b
import Derived.Lib.Hide
namespace Go.Proofs.Ytfcgkjbifnhjjaa.St
open Go.RowKit
set_option linter.unusedVariables false

attribute [local go_sem] blk_alloc_at blk_alloc_past blk_drew blk_drewN blk_setB_same blk_setB_other blk_setRow_other setRow_alloc_at setRow_alloc_past setRow_drewN setRow_drew setB_size setB_cell setB_frozen setB_alloc_past setB_drewN setB_drew run_loadV loadOr_cells run_storeV storeOr_cells cells_size ones_cells cells_0 cells_1 cells_2 cells_16 cells_g0 cells_g1 cells_g2 cells_g16 cells_set0 cells_set1 cells_set2 cells_text
attribute [local go_sem ↓] execOp_loadV execOp_storeV
attribute [local go_sem ↓] wp_at0 wp_at1 wp_at2 wp_at3 wp_at4 wp_at5 wp_at6 wp_at7

theorem pkey_any (i : Int) (w : World) :
    Calls Try.prog 63 #[.int .i64 i] w fun e w' => e = .returned (keyV 8 i) ∧ Below w.heap.size w w' := by
  go_enter Try.func63, Try.ntmps63
  go_wp2_with fail
  exact bodyPost_key (b := w.heap.size) rfl rfl rfl (heap_alloc_new _ _) rfl ⟨rfl, (Below.refl _ _).alloc (Nat.le_refl _) _⟩

theorem ptable_any (w : World) :
    Calls Try.prog 61 #[] w fun e w' => e = .returned (keyV 7 0) ∧ Below w.heap.size w w' := by
  go_enter Try.func61, Try.ntmps61
  go_wp2_with fail
  exact bodyPost_key (b := w.heap.size) rfl rfl rfl (heap_alloc_new _ _) rfl ⟨rfl, (Below.refl _ _).alloc (Nat.le_refl _) _⟩

/-- The sixteen numbers of a value, as an array. -/
def Val.row (x : Val) : Array Value := #[.int .i64 (x.n 0), .int .i64 (x.n 1), .int .i64 (x.n 2), .int .i64 (x.n 3), .int .i64 (x.n 4), .int .i64 (x.n 5), .int .i64 (x.n 6), .int .i64 (x.n 7), .int .i64 (x.n 8), .int .i64 (x.n 9), .int .i64 (x.n 10), .int .i64 (x.n 11), .int .i64 (x.n 12), .int .i64 (x.n 13), .int .i64 (x.n 14), .int .i64 (x.n 15)]
theorem run_fieldN (x : Val) (W : World) : (Instr.field 47 (.agg x.cells) 0).run Try.prog W = .ok (.agg x.row) W := by kernel_rfl
theorem run_indexN (x : Val) (W : World) : (Instr.index 45 (.agg x.row) (.int .i64 0)).run Try.prog W = .ok (.int .i64 (x.n 0)) W := by kernel_rfl
attribute [local go_sem] run_fieldN run_indexN

/-- Is there such a pipe; what was read to know it. -/
def pHas (st : VSt) (q : Int) : Bool := if q < 0 ∨ 4 ≤ q then false else usedI ((st.get 7 0).n 0) q.toNat
def pSaw (st : VSt) (q : Int) : VSt := if q < 0 ∨ 4 ≤ q then st else st.saw 7 0

theorem pis_out (L : Lay) (st : VSt) (q : Int) (h : decide (0 ≤ q) = false ∨ decide (0 ≤ q) = true ∧ decide (q < 4) = false) (w : World) (hV : ViewAt w L st) :
    Calls Try.prog 34 #[.pointer (some ⟨L.v, 0, none⟩), .int .i64 q] w fun e w' => e = .returned (.bool false) ∧ ViewAt w' L st ∧ Turn (· = L.r) w w' := by
  rcases h with h | ⟨h1, h2⟩
  all_goals
    go_enter Try.func34, Try.ntmps34
    go_wp2_with fail
    go_ret
    exact ⟨rfl, hV, Turn.refl _ _⟩

theorem usedI_def (x : Int) (j : Nat) : (bits BinOp.and IntKind.i64 (x / 2 ^ j) 1 == 1) = usedI x j := by rw [usedI]
theorem usedI_dec (x : Int) (j : Nat) : decide (bits BinOp.and IntKind.i64 (x / 2 ^ j) 1 = 1) = usedI x j := by
  unfold usedI
  by_cases h : bits BinOp.and IntKind.i64 (x / 2 ^ j) 1 = 1
  · rw [h]; rfl
  · rw [decide_eq_false h]; symm; simpa using h

attribute [local irreducible] Int.lt Int.le
set_option maxRecDepth 20000 in
theorem pis_in (L : Lay) (st : VSt) (j : Nat) (h1 : j < 4) (w : World) (hV : ViewAt w L st) :
    Calls Try.prog 34 #[.pointer (some ⟨L.v, 0, none⟩), .int .i64 j] w fun e w' => e = .returned (.bool (usedI ((st.get 7 0).n 0) j)) ∧ ViewAt w' L (st.saw 7 0) ∧ Turn (· = L.r) w w' := by
  have g1 : (0 : Int) ≤ (j : Int) := by omega
  have g2 : (j : Int) < 4 := by omega
  go_enter Try.func34, Try.ntmps34
  go_wp2_with fail
  refine (ptable_any _).mono ?_; rintro e w1 ⟨rfl, t1⟩
  have hv1 := hV.below t1
  go_wp2_with fail
  refine (vget_any L st 7 0 _ hv1).mono ?_; rintro e w2 ⟨rfl, hv2, t2⟩
  generalize hx : st.get 7 0 = x at *
  go_wp2_with fail
  go_ret
  exact ⟨by rw [hx, ← usedI_def]; rfl, hv2, (Turn.of_below t1 _).trans t2⟩

theorem pis_any (L : Lay) (st : VSt) (q : Int) (w : World) (hV : ViewAt w L st) :
    Calls Try.prog 34 #[.pointer (some ⟨L.v, 0, none⟩), .int .i64 q] w fun e w' => e = .returned (.bool (pHas st q)) ∧ ViewAt w' L (pSaw st q) ∧ Turn (· = L.r) w w' := by
  unfold pHas pSaw
  by_cases h : q < 0 ∨ 4 ≤ q
  · rw [if_pos h, if_pos h]
    refine pis_out L st q ?_ w hV
    by_cases h0 : 0 ≤ q
    · exact Or.inr ⟨decide_eq_true h0, decide_eq_false (by omega)⟩
    · exact Or.inl (decide_eq_false h0)
  · rw [if_neg h, if_neg h]
    obtain ⟨j, rfl⟩ := Int.eq_ofNat_of_zero_le (show 0 ≤ q by omega)
    exact pis_in L st j (by omega) w hV

/-- A pipe's mark in the table. -/
def unmarkN (x : Int) (j : Nat) : Int := bits BinOp.andNot IntKind.i64 x (wrap64 (2 ^ j))
theorem unmarkN_def (x : Int) (j : Nat) : bits BinOp.andNot IntKind.i64 x (wrap64 (2 ^ j)) = unmarkN x j := by rw [unmarkN]
def pMarkI (x : Int) (j : Nat) (on : Bool) : Int := if on then markI (unmarkN x j) j else unmarkN x j
def pMark (st : VSt) (j : Nat) (on : Bool) : VSt := (st.saw 7 0).put 7 0 ((st.get 7 0).set 0 (pMarkI ((st.get 7 0).n 0) j on))

theorem set0_set0 (x : Val) (a b : Int) : (x.set 0 a).set 0 b = x.set 0 b := by
  unfold Val.set; congr 1; funext i; by_cases h : i = 0 <;> simp [h]
theorem set0_n0 (x : Val) (a : Int) : (x.set 0 a).n 0 = a := by simp [Val.set]

end Go.Proofs.Ytfcgkjbifnhjjaa.St

namespace Go.Proofs.Ytfcgkjbifnhjjaa.St
open Go.RowKit
set_option linter.unusedVariables false

attribute [local go_sem] blk_alloc_at blk_alloc_past blk_drew blk_drewN blk_setB_same blk_setB_other blk_setRow_other setRow_alloc_at setRow_alloc_past setRow_drewN setRow_drew setB_size setB_cell setB_frozen setB_alloc_past setB_drewN setB_drew run_loadV loadOr_cells run_storeV storeOr_cells cells_size ones_cells cells_0 cells_1 cells_2 cells_16 cells_g0 cells_g1 cells_g2 cells_g16 cells_set0 cells_set1 cells_set2 cells_text
attribute [local go_sem ↓] execOp_loadV execOp_storeV
attribute [local go_sem ↓] wp_at0 wp_at1 wp_at2 wp_at3 wp_at4 wp_at5 wp_at6 wp_at7

attribute [local go_sem] run_fieldN run_indexN unmarkN_def markI_def set0_n0 set0_set0

theorem pMarkI_on (x : Int) (j : Nat) : pMarkI x j true = markI (unmarkN x j) j := rfl
theorem pMarkI_off (x : Int) (j : Nat) : pMarkI x j false = unmarkN x j := rfl
set_option maxRecDepth 20000 in
theorem pmark_off (L : Lay) (st : VSt) (j : Nat) (h1 : j < 4) (w : World) (hV : ViewAt w L st) :
    Calls Try.prog 62 #[.pointer (some ⟨L.v, 0, none⟩), .int .i64 j, .bool false] w fun e w' => e = .returned (.tuple #[]) ∧ ViewAt w' L (pMark st j false) ∧ Turn (fun k => k = L.r ∨ k = L.m) w w' := by
  have hz := zero_val
  have lt := hV.lts
  have g1 : (0 : Int) ≤ (j : Int) := by omega
  have g2 : (j : Int) < 4 := by omega
  go_enter Try.func62, Try.ntmps62
  go_wp2_with fail
  refine (ptable_any _).mono ?_; rintro e w1 ⟨rfl, t1⟩
  have hv1 := hV.below t1
  go_wp2_with fail
  refine (vget_any L st 7 0 _ hv1).mono ?_; rintro e w2 ⟨rfl, hv2, t2⟩
  have t2' := (Turn.of_below t1 _).trans t2
  generalize hx : st.get 7 0 = x at *
  clear t1 hv1 t2
  go_wp2_with fail
  generalize hy : x.set 0 (unmarkN (x.n 0) j) = y at *
  have b2 : blk (w2.alloc (Obj.cells y.cells 47)) w2.heap.size = some (.cells y.cells 47 (0, 0)) := blk_alloc_at _ _ _ rfl
  have hv3 := hv2.alloc (Obj.cells y.cells 47)
  have t3 := t2'.alloc (Obj.cells y.cells 47)
  clear hv2 t2'
  generalize w2.alloc (Obj.cells y.cells 47) = W2 at *
  generalize w2.heap.size = B at *
  obtain ⟨bd, vd, sd⟩ := at_drew b2 hv3
  go_region_with (first
    | (go_at_call 61; refine (ptable_any _).mono ?_; rintro e w8 ⟨rfl, t8⟩; have b8 := blk_below t8 bd sd; have v8 := vd.below t8; have r8 := t8.size)
    | (go_at_call 44; refine (vput_any L (st.saw 7 0) 7 0 y _ (by assumption)).mono ?_; rintro e w9 ⟨rfl, hv9, t9⟩))
  all_goals
    clear b2 hv3 bd vd b8 v8
    go_wp2_with fail
    go_end0
    exact ⟨rfl, by unfold pMark; rw [hx, pMarkI_off, hy]; exact hv9, ((t3.mono fun _ _ => Or.inl).drew.trans (Turn.of_below t8 _)).trans (t9.mono fun _ _ => Or.inr)⟩

set_option maxRecDepth 20000 in
theorem pmark_on (L : Lay) (st : VSt) (j : Nat) (h1 : j < 4) (w : World) (hV : ViewAt w L st) :
    Calls Try.prog 62 #[.pointer (some ⟨L.v, 0, none⟩), .int .i64 j, .bool true] w fun e w' => e = .returned (.tuple #[]) ∧ ViewAt w' L (pMark st j true) ∧ Turn (fun k => k = L.r ∨ k = L.m) w w' := by
  have hz := zero_val
  have lt := hV.lts
  have g1 : (0 : Int) ≤ (j : Int) := by omega
  have g2 : (j : Int) < 4 := by omega
  go_enter Try.func62, Try.ntmps62
  go_wp2_with fail
  refine (ptable_any _).mono ?_; rintro e w1 ⟨rfl, t1⟩
  have hv1 := hV.below t1
  go_wp2_with fail
  refine (vget_any L st 7 0 _ hv1).mono ?_; rintro e w2 ⟨rfl, hv2, t2⟩
  have t2' := (Turn.of_below t1 _).trans t2
  generalize hx : st.get 7 0 = x at *
  clear t1 hv1 t2
  go_upto_region 3 with fail
  obtain ⟨u, hu⟩ : ∃ u, u = x.set 0 (unmarkN (x.n 0) j) := ⟨_, rfl⟩
  rw [← hu]
  have hu0 : u.n 0 = unmarkN (x.n 0) j := by rw [hu, set0_n0]
  have hu1 : ∀ v, u.set 0 v = x.set 0 v := fun v => by rw [hu, set0_set0]
  clear hu
  go_wp2_with fail
  clear hu0 hu1
  generalize hy : x.set 0 (markI (unmarkN (x.n 0) j) j) = y at *
  have b2 : blk (w2.alloc (Obj.cells y.cells 47)) w2.heap.size = some (.cells y.cells 47 (0, 0)) := blk_alloc_at _ _ _ rfl
  have hv3 := hv2.alloc (Obj.cells y.cells 47)
  have t3 := t2'.alloc (Obj.cells y.cells 47)
  clear hv2 t2'
  generalize w2.alloc (Obj.cells y.cells 47) = W2 at *
  generalize w2.heap.size = B at *
  obtain ⟨bd, vd, sd⟩ := at_drew b2 hv3
  go_region_with (first
    | (go_at_call 61; refine (ptable_any _).mono ?_; rintro e w8 ⟨rfl, t8⟩; have b8 := blk_below t8 bd sd; have v8 := vd.below t8; have r8 := t8.size)
    | (go_at_call 44; refine (vput_any L (st.saw 7 0) 7 0 y _ (by assumption)).mono ?_; rintro e w9 ⟨rfl, hv9, t9⟩))
  all_goals
    clear b2 hv3 bd vd b8 v8
    go_wp2_with fail
    go_end0
    exact ⟨rfl, by unfold pMark; rw [hx, pMarkI_on, hy]; exact hv9, ((t3.mono fun _ _ => Or.inl).drew.trans (Turn.of_below t8 _)).trans (t9.mono fun _ _ => Or.inr)⟩

theorem pmark_any (L : Lay) (st : VSt) (j : Nat) (on : Bool) (h1 : j < 4) (w : World) (hV : ViewAt w L st) :
    Calls Try.prog 62 #[.pointer (some ⟨L.v, 0, none⟩), .int .i64 j, .bool on] w fun e w' => e = .returned (.tuple #[]) ∧ ViewAt w' L (pMark st j on) ∧ Turn (fun k => k = L.r ∨ k = L.m) w w' := by
  cases on
  · exact pmark_off L st j h1 w hV
  · exact pmark_on L st j h1 w hV
end Go.Proofs.Ytfcgkjbifnhjjaa.St

namespace Go.Proofs.Ytfcgkjbifnhjjaa.St
open Go.RowKit
set_option linter.unusedVariables false

attribute [local go_sem] blk_alloc_at blk_alloc_past blk_drew blk_drewN blk_setB_same blk_setB_other blk_setRow_other setRow_alloc_at setRow_alloc_past setRow_drewN setRow_drew setB_size setB_cell setB_frozen setB_alloc_past setB_drewN setB_drew run_loadV loadOr_cells run_storeV storeOr_cells cells_size ones_cells cells_0 cells_1 cells_2 cells_16 cells_g0 cells_g1 cells_g2 cells_g16 cells_set0 cells_set1 cells_set2 cells_text
attribute [local go_sem ↓] execOp_loadV execOp_storeV
attribute [local go_sem ↓] wp_at0 wp_at1 wp_at2 wp_at3 wp_at4 wp_at5 wp_at6 wp_at7
attribute [local go_sem] run_fieldN run_indexN

/-- The least pipe from 4 - d on that isn't used; 4: none. -/
def freeP (x : Int) : Nat → Nat
  | 0 => 4
  | d + 1 => if usedI x (3 - d) = true then freeP x d else 3 - d
def pFree (st : VSt) : Nat := freeP ((st.get 7 0).n 0) 4
def pNew : Val := (Val.zero.set 0 1).set 1 1
def pAlloc (st : VSt) : VSt := if pFree st < 4 then (pMark (st.saw 7 0) (pFree st) true).put 8 (pFree st) pNew else st.saw 7 0
def pGot (st : VSt) : Int := if pFree st < 4 then (pFree st : Int) else 0

theorem freeP_hit (x : Int) (j : Nat) (h : j < 4) (hb : usedI x j = false) : freeP x (4 - j) = j := by
  have e : 4 - j = (3 - j) + 1 := by omega
  rw [e, freeP, show 3 - (3 - j) = j by omega, hb]
  rfl
theorem freeP_past (x : Int) (j : Nat) (h : j < 4) (hb : usedI x j = true) : freeP x (4 - j) = freeP x (4 - (j + 1)) := by
  have e : 4 - j = (3 - j) + 1 := by omega
  rw [e, freeP, show 3 - (3 - j) = j by omega, if_pos hb, show 4 - (j + 1) = 3 - j by omega]

attribute [local irreducible] Int.lt Int.le
set_option maxRecDepth 20000 in
theorem palloc_any (L : Lay) (st : VSt) (w : World) (hV : ViewAt w L st) :
    Calls Try.prog 26 #[.pointer (some ⟨L.v, 0, none⟩)] w fun e w' => e = .returned (.tuple #[.int .i64 (pGot st), .bool (decide (pFree st < 4))]) ∧ ViewAt w' L (pAlloc st) ∧ Turn (fun k => k = L.r ∨ k = L.m) w w' := by
  have lt := hV.lts
  have hz := zero_val
  go_enter Try.func26, Try.ntmps26
  go_wp2_with fail
  refine (ptable_any _).mono ?_; rintro e w1 ⟨rfl, t1⟩
  have hv1 := hV.below t1
  go_wp2_with fail
  refine (vget_any L st 7 0 _ hv1).mono ?_; rintro e w2 ⟨rfl, hv2, t2⟩
  have t2' := (Turn.of_below t1 _).trans t2
  generalize hx : st.get 7 0 = x at *
  clear t1 hv1 t2
  go_wp2_with fail
  go_loop [12] (fun i => ∃ j : Nat, j ≤ 4 ∧ i = .int .i64 (j : Int) ∧ pFree st = freeP (x.n 0) (4 - j)) (fun i => 4 - (intOf i).toNat)
  case atStart => exact ⟨0, by omega, rfl, by unfold pFree; rw [hx]⟩
  case round =>
    obtain ⟨j, j2, rfl, hfree⟩ := hrel
    by_cases hlt : j < 4
    · have l0 : (0 : Int) ≤ (j : Int) := by omega
      have l1 : (j : Int) < 4 := by omega
      cases hbit : (bits BinOp.and IntKind.i64 (x.n 0 / 2 ^ j) 1 == 1)
      · go_wp2_with fail
        have hf : pFree st = j := hfree.trans (freeP_hit _ _ hlt (by rw [← usedI_def]; exact hbit))
        refine (pmark_any L (st.saw 7 0) j true hlt _ hv2).mono ?_; rintro e w3 ⟨rfl, hv3, t3⟩
        have t3' := (t2'.mono fun _ _ => Or.inl).trans t3
        clear hv2 t2' t3 hbit
        go_upto_region 8 with fail
        obtain ⟨z, hz0⟩ : ∃ z, z = Val.zero := ⟨_, rfl⟩
        rw [← hz0]
        have hy0 : (z.set 0 1).set 1 1 = pNew := by rw [hz0, pNew]
        clear hz0 hz
        go_upto_region 9 with fail
        try rw [hy0]
        clear hy0
        generalize hy : pNew = y at *
        have b2 : blk (w3.alloc (Obj.cells y.cells 47)) w3.heap.size = some (.cells y.cells 47 (0, 0)) := blk_alloc_at _ _ _ rfl
        have hv4 := hv3.alloc (Obj.cells y.cells 47)
        have t4 := t3'.alloc (Obj.cells y.cells 47)
        clear hv3 t3'
        generalize w3.alloc (Obj.cells y.cells 47) = W2 at *
        generalize w3.heap.size = B at *
        obtain ⟨bd, vd, sd⟩ := at_drew b2 hv4
        go_region_with (first
          | (go_at_call 63; refine (pkey_any j _).mono ?_; rintro e w8 ⟨rfl, t8⟩; have b8 := blk_below t8 bd sd; have v8 := vd.below t8; have r8 := t8.size)
          | (go_at_call 44; refine (vput_any L (pMark (st.saw 7 0) j true) 8 j y _ (by assumption)).mono ?_; rintro e w9 ⟨rfl, hv9, t9⟩))
        all_goals
          clear b2 hv4 bd vd b8 v8
          go_wp2_with fail
          go_ret2
          refine ⟨by unfold pGot; rw [hf, if_pos hlt]; simp [hlt], by unfold pAlloc; rw [hf, if_pos hlt, hy]; exact hv9, (t4.drew.trans (Turn.of_below t8 _)).trans (t9.mono fun _ _ => Or.inr)⟩
      · go_wp2_with fail
        go_round
        case rel => exact ⟨j + 1, by omega, by go_num, hfree.trans (freeP_past _ _ hlt (by rw [← usedI_def]; exact hbit))⟩
        case measure => simp [intOf]; omega
    · obtain rfl : j = 4 := by omega
      go_wp2_with fail
      go_ret2
      have hf : pFree st = 4 := hfree
      refine ⟨by unfold pGot; rw [hf]; rfl, by unfold pAlloc; rw [hf]; exact hv2, t2'.mono fun _ _ => Or.inl⟩
end Go.Proofs.Ytfcgkjbifnhjjaa.St

namespace Go.Proofs.Ytfcgkjbifnhjjaa.St
open Go.RowKit
set_option linter.unusedVariables false

attribute [local go_sem] blk_alloc_at blk_alloc_past blk_drew blk_drewN blk_setB_same blk_setB_other blk_setRow_other setRow_alloc_at setRow_alloc_past setRow_drewN setRow_drew setB_size setB_cell setB_frozen setB_alloc_past setB_drewN setB_drew run_loadV loadOr_cells run_storeV storeOr_cells cells_size ones_cells cells_0 cells_1 cells_2 cells_16 cells_g0 cells_g1 cells_g2 cells_g16 cells_set0 cells_set1 cells_set2 cells_text
attribute [local go_sem ↓] execOp_loadV execOp_storeV
attribute [local go_sem ↓] wp_at0 wp_at1 wp_at2 wp_at3 wp_at4 wp_at5 wp_at6 wp_at7
attribute [local go_sem] run_fieldN run_indexN

theorem phas_in {st : VSt} {q : Int} (h : pHas st q = true) : 0 ≤ q ∧ q < 4 := by
  unfold pHas at h
  split at h
  · exact absurd h (by decide)
  · omega
theorem get_sawP (st : VSt) (a b k n : Int) : (st.saw a b).get k n = st.get k n := by
  unfold VSt.saw; split <;> rfl
/-- A pipe that is there, and has been looked at. -/
def pLook (st : VSt) (q : Int) : VSt := (pSaw st q).saw 8 q

attribute [local irreducible] Int.lt Int.le
set_option maxRecDepth 20000 in
theorem pread_no (L : Lay) (st : VSt) (q n : Int) (hc : pHas st q = false ∨ pHas st q = true ∧ decide (n < 0) = true) (w : World) (hV : ViewAt w L st) :
    Calls Try.prog 28 #[.pointer (some ⟨L.v, 0, none⟩), .int .i64 q, .int .i64 n] w fun e w' => e = .returned (.tuple #[.string ⟨#[]⟩, .int .i64 1]) ∧ ViewAt w' L (pSaw st q) ∧ Turn (· = L.r) w w' := by
  rcases hc with h1 | ⟨h1, h2⟩
  all_goals
    go_enter Try.func28, Try.ntmps28
    go_wp2_with fail
    refine (pis_any L st q _ hV).mono ?_; rintro e w1 ⟨rfl, hv1, t1⟩
    go_wp2_with fail
    go_ret2
    exact ⟨rfl, hv1, t1⟩

set_option maxRecDepth 20000 in
theorem pread_block (L : Lay) (st : VSt) (q n : Int) (x : Val) (hx : st.get 8 q = x) (hh : pHas st q = true) (h1 : 0 < n) (h2 : x.s = ⟨#[]⟩) (h3 : 0 < x.n 1) (w : World) (hV : ViewAt w L st) :
    Calls Try.prog 28 #[.pointer (some ⟨L.v, 0, none⟩), .int .i64 q, .int .i64 n] w fun e w' => e = .returned (.tuple #[.string ⟨#[]⟩, .int .i64 2]) ∧ ViewAt w' L (pLook st q) ∧ Turn (· = L.r) w w' := by
  have h0 : ¬ n < 0 := by omega
  go_enter Try.func28, Try.ntmps28
  go_wp2_with fail
  refine (pis_any L st q _ hV).mono ?_; rintro e w1 ⟨rfl, hv1, t1⟩
  go_wp2_with fail
  refine (pkey_any q _).mono ?_; rintro e w2 ⟨rfl, t2⟩
  have hv2 := hv1.below t2
  go_wp2_with fail
  refine (vget_any L (pSaw st q) 8 q _ hv2).mono ?_; rintro e w3 ⟨rfl, hv3, t3⟩
  have gx : (pSaw st q).get 8 q = x := by
    rw [← hx]; unfold pSaw; split
    · rfl
    · exact get_sawP _ _ _ _ _
  rw [gx]
  have t3' := (t1.trans (Turn.of_below t2 _)).trans t3
  clear t1 hv1 t2 hv2 t3 gx
  go_wp2_with fail
  go_ret2
  exact ⟨rfl, hv3.alloc _, t3'.alloc _⟩

theorem gx_of {st : VSt} {q : Int} {x : Val} (hx : st.get 8 q = x) : (pSaw st q).get 8 q = x := by
  rw [← hx]; unfold pSaw; split
  · rfl
  · exact get_sawP _ _ _ _ _

set_option maxRecDepth 20000 in
theorem pread_none (L : Lay) (st : VSt) (q n : Int) (x : Val) (hx : st.get 8 q = x) (hh : pHas st q = true) (hc : n = 0 ∨ 0 < n ∧ x.s = ⟨#[]⟩ ∧ x.n 1 ≤ 0) (w : World) (hV : ViewAt w L st) :
    Calls Try.prog 28 #[.pointer (some ⟨L.v, 0, none⟩), .int .i64 q, .int .i64 n] w fun e w' => e = .returned (.tuple #[.string ⟨#[]⟩, .int .i64 0]) ∧ ViewAt w' L (pLook st q) ∧ Turn (· = L.r) w w' := by
  have gx := gx_of hx
  have h00 : (0 : Int) ≤ (x.s.size : Int) := by omega
  have e0 : ByteArray.size ⟨#[]⟩ = 0 := rfl
  rcases hc with rfl | ⟨h1, h2, h3⟩
  case' inr =>
    have h0 : ¬ n < 0 := by omega
    have h4 : ¬ 0 < x.n 1 := by omega
    rw [h2] at h00
  all_goals
    go_enter Try.func28, Try.ntmps28
    go_wp2_with fail
    refine (pis_any L st q _ hV).mono ?_; rintro e w1 ⟨rfl, hv1, t1⟩
    go_wp2_with fail
    refine (pkey_any q _).mono ?_; rintro e w2 ⟨rfl, t2⟩
    have hv2 := hv1.below t2
    go_wp2_with fail
    refine (vget_any L (pSaw st q) 8 q _ hv2).mono ?_; rintro e w3 ⟨rfl, hv3, t3⟩
    rw [gx]
    have t3' := (t1.trans (Turn.of_below t2 _)).trans t3
    clear t1 hv1 t2 hv2 t3
    go_wp2_with fail
    go_ret2
    exact ⟨rfl, hv3.alloc _, t3'.alloc _⟩

theorem list_ne {s : ByteArray} (h : 0 < s.size) : ¬ s.toList = [] := by
  intro e
  rw [toList_nil_iff_emptyBytes] at e
  rw [e] at h
  exact absurd h (by decide)
theorem list_some (s : ByteArray) (h : 0 < s.size) : s.toList.isEmpty = false := by
  cases e : s.toList with
  | nil => exact absurd e (list_ne h)
  | cons a l => rfl

/-- What is taken of a pipe's bytes, and what stays. -/
def pTook (s : ByteArray) (n : Int) : ByteArray := s.extract 0 (min n s.size).toNat
def pLeft (s : ByteArray) (n : Int) : ByteArray := s.extract (min n s.size).toNat s.size

set_option maxRecDepth 20000 in
theorem pread_some (L : Lay) (st : VSt) (q n : Int) (x : Val) (hx : st.get 8 q = x) (hh : pHas st q = true) (h1 : 0 < n) (h2 : 0 < x.s.size) (w : World) (hV : ViewAt w L st) :
    Calls Try.prog 28 #[.pointer (some ⟨L.v, 0, none⟩), .int .i64 q, .int .i64 n] w fun e w' => e = .returned (.tuple #[.string (pTook x.s n), .int .i64 0]) ∧ ViewAt w' L ((pLook st q).put 8 q (x.text (pLeft x.s n))) ∧ Turn (fun k => k = L.r ∨ k = L.m) w w' := by
  have gx := gx_of hx
  have h0 : ¬ n < 0 := by omega
  have hn := list_ne h2
  have hm := list_some (x.s.extract 0 n.toNat) (by rw [ByteArray.size_extract]; omega)
  have hm2 := list_some x.s h2
  have hmx : max n 0 = n := by omega
  have key : (n ≤ (x.s.size : Int) ∧ pTook x.s n = x.s.extract 0 n.toNat ∧ pLeft x.s n = x.s.extract n.toNat x.s.size) ∨ ((x.s.size : Int) < n ∧ pTook x.s n = x.s ∧ pLeft x.s n = ByteArray.empty) := by
    unfold pTook pLeft
    by_cases c : n ≤ (x.s.size : Int)
    · exact Or.inl ⟨c, by rw [show min n (x.s.size : Int) = n by omega], by rw [show min n (x.s.size : Int) = n by omega]⟩
    · refine Or.inr ⟨by omega, ?_, ?_⟩
      · rw [show (min n (x.s.size : Int)).toNat = x.s.size by omega]; exact ByteArray.extract_zero_size
      · rw [show (min n (x.s.size : Int)).toNat = x.s.size by omega]; apply ByteArray.ext; simp
  rcases key with ⟨c1, k1, k2⟩ | ⟨c1, k1, k2⟩
  case' inl => obtain ⟨y, hy⟩ : ∃ y, y = x.text (x.s.extract n.toNat x.s.size) := ⟨_, rfl⟩
  case' inr => obtain ⟨y, hy⟩ : ∃ y, y = x.text ByteArray.empty := ⟨_, rfl⟩
  all_goals
    rw [k1, k2, ← hy]
    have Hy := Lib.hid hy
    clear k1 k2 hy
    go_enter Try.func28, Try.ntmps28
    go_wp2_with fail
    refine (pis_any L st q _ hV).mono ?_; rintro e w1 ⟨rfl, hv1, t1⟩
    go_wp2_with fail
    refine (pkey_any q _).mono ?_; rintro e w2 ⟨rfl, t2⟩
    have hv2 := hv1.below t2
    go_wp2_with fail
    refine (vget_any L (pSaw st q) 8 q _ hv2).mono ?_; rintro e w3 ⟨rfl, hv3, t3⟩
    rw [gx]
    have t3' := (t1.trans (Turn.of_below t2 _)).trans t3
    clear t1 hv1 t2 hv2 t3
    go_wp2_with fail
    rw [← Hy.out]
    clear Hy
    have b2 : blk (w3.alloc (Obj.cells y.cells 47)) w3.heap.size = some (.cells y.cells 47 (0, 0)) := blk_alloc_at _ _ _ rfl
    have hv4 := hv3.alloc (Obj.cells y.cells 47)
    have t4 := t3'.alloc (Obj.cells y.cells 47)
    clear hv3 t3'
    generalize w3.alloc (Obj.cells y.cells 47) = W2 at *
    generalize w3.heap.size = B at *
    obtain ⟨bd, vd, sd⟩ := at_drew b2 hv4
    go_region_with (first
      | (go_at_call 63; refine (pkey_any q _).mono ?_; rintro e w8 ⟨rfl, t8⟩; have b8 := blk_below t8 bd sd; have v8 := vd.below t8; have r8 := t8.size)
      | (go_at_call 44; refine (vput_any L ((pSaw st q).saw 8 q) 8 q y _ (by assumption)).mono ?_; rintro e w9 ⟨rfl, hv9, t9⟩))
    all_goals
      clear b2 hv4 bd vd b8 v8
      go_wp2_with fail
      go_ret2
      exact ⟨rfl, hv9, ((t4.mono fun _ _ => Or.inl).drew.trans (Turn.of_below t8 _)).trans (t9.mono fun _ _ => Or.inr)⟩

/-- pipe.Read: what it answers, what the view is behind it. -/
def pRead (st : VSt) (q n : Int) : ByteArray := if pHas st q = false ∨ n < 0 then ⟨#[]⟩ else if 0 < n ∧ 0 < (st.get 8 q).s.size then pTook (st.get 8 q).s n else ⟨#[]⟩
def pReadS (st : VSt) (q n : Int) : Int := if pHas st q = false ∨ n < 0 then 1 else if 0 < n ∧ (st.get 8 q).s.size = 0 ∧ 0 < (st.get 8 q).n 1 then 2 else 0
def pReadV (st : VSt) (q n : Int) : VSt := if pHas st q = false ∨ n < 0 then pSaw st q else if 0 < n ∧ 0 < (st.get 8 q).s.size then (pLook st q).put 8 q ((st.get 8 q).text (pLeft (st.get 8 q).s n)) else pLook st q

theorem size_none {s : ByteArray} (h : s.size = 0) : s = ⟨#[]⟩ := by
  apply ByteArray.ext
  apply Array.ext
  · simpa using h
  · intro i a b; simp at b

theorem pread_any (L : Lay) (st : VSt) (q n : Int) (w : World) (hV : ViewAt w L st) :
    Calls Try.prog 28 #[.pointer (some ⟨L.v, 0, none⟩), .int .i64 q, .int .i64 n] w fun e w' => e = .returned (.tuple #[.string (pRead st q n), .int .i64 (pReadS st q n)]) ∧ ViewAt w' L (pReadV st q n) ∧ Turn (fun k => k = L.r ∨ k = L.m) w w' := by
  unfold pRead pReadS pReadV
  by_cases a1 : pHas st q = false ∨ n < 0
  · rw [if_pos a1, if_pos a1, if_pos a1]
    refine (pread_no L st q n ?_ w hV).mono fun e w' ⟨a, b, c⟩ => ⟨a, b, c.mono fun _ _ => Or.inl⟩
    cases h : pHas st q with
    | false => exact Or.inl rfl
    | true =>
      rw [h] at a1
      exact Or.inr ⟨rfl, decide_eq_true (a1.resolve_left (by decide))⟩
  · rw [if_neg a1, if_neg a1, if_neg a1]
    have hh : pHas st q = true := by
      cases h : pHas st q with
      | false => exact absurd (Or.inl h) a1
      | true => rfl
    have hn : 0 ≤ n := by omega
    by_cases a2 : 0 < n ∧ 0 < (st.get 8 q).s.size
    · rw [if_pos a2, if_neg (by omega), if_pos a2]
      exact pread_some L st q n _ rfl hh a2.1 a2.2 w hV
    · rw [if_neg a2, if_neg a2]
      by_cases a3 : 0 < n ∧ (st.get 8 q).s.size = 0 ∧ 0 < (st.get 8 q).n 1
      · rw [if_pos a3]
        exact (pread_block L st q n _ rfl hh a3.1 (size_none a3.2.1) a3.2.2 w hV).mono fun e w' ⟨a, b, c⟩ => ⟨a, b, c.mono fun _ _ => Or.inl⟩
      · rw [if_neg a3]
        refine (pread_none L st q n _ rfl hh ?_ w hV).mono fun e w' ⟨a, b, c⟩ => ⟨a, b, c.mono fun _ _ => Or.inl⟩
        by_cases h0 : n = 0
        · exact Or.inl h0
        · exact Or.inr ⟨by omega, size_none (by omega), by omega⟩
end Go.Proofs.Ytfcgkjbifnhjjaa.St

namespace Go.Proofs.Ytfcgkjbifnhjjaa.St
open Go.RowKit
set_option linter.unusedVariables false

attribute [local go_sem] blk_alloc_at blk_alloc_past blk_drew blk_drewN blk_setB_same blk_setB_other blk_setRow_other setRow_alloc_at setRow_alloc_past setRow_drewN setRow_drew setB_size setB_cell setB_frozen setB_alloc_past setB_drewN setB_drew run_loadV loadOr_cells run_storeV storeOr_cells cells_size ones_cells cells_0 cells_1 cells_2 cells_16 cells_g0 cells_g1 cells_g2 cells_g16 cells_set0 cells_set1 cells_set2 cells_text
attribute [local go_sem ↓] execOp_loadV execOp_storeV
attribute [local go_sem ↓] wp_at0 wp_at1 wp_at2 wp_at3 wp_at4 wp_at5 wp_at6 wp_at7
attribute [local go_sem] run_fieldN run_indexN

attribute [local irreducible] Int.lt Int.le
set_option maxRecDepth 20000 in
theorem pwrite_out (L : Lay) (st : VSt) (q : Int) (d : ByteArray) (h1 : pHas st q = false) (w : World) (hV : ViewAt w L st) :
    Calls Try.prog 30 #[.pointer (some ⟨L.v, 0, none⟩), .int .i64 q, .string d] w fun e w' => e = .returned (.tuple #[.int .i64 (-1), .int .i64 1]) ∧ ViewAt w' L (pSaw st q) ∧ Turn (· = L.r) w w' := by
  go_enter Try.func30, Try.ntmps30
  go_wp2_with fail
  refine (pis_any L st q _ hV).mono ?_; rintro e w1 ⟨rfl, hv1, t1⟩
  go_wp2_with fail
  go_ret2
  exact ⟨rfl, hv1, t1⟩

/-- What pipe.Write answers where it gives nothing. -/
def pNay (x : Val) (d : ByteArray) : Int × Int := if x.n 0 ≤ 0 then (-1, 1) else if d.size = 0 then (0, 0) else (0, 2)

set_option maxRecDepth 20000 in
theorem pwrite_nay (L : Lay) (st : VSt) (q : Int) (d : ByteArray) (x : Val) (hx : st.get 8 q = x) (hh : pHas st q = true) (hs : (x.s.size : Int) ≤ 140737488351232) (hc : x.n 0 ≤ 0 ∨ ¬ x.n 0 ≤ 0 ∧ d.size = 0 ∨ ¬ x.n 0 ≤ 0 ∧ 0 < d.size ∧ 16 - (x.s.size : Int) ≤ 0) (w : World) (hV : ViewAt w L st) :
    Calls Try.prog 30 #[.pointer (some ⟨L.v, 0, none⟩), .int .i64 q, .string d] w fun e w' => e = .returned (.tuple #[.int .i64 (pNay x d).1, .int .i64 (pNay x d).2]) ∧ ViewAt w' L (pLook st q) ∧ Turn (· = L.r) w w' := by
  have gx := gx_of hx
  have e1 : wrap64 (16 - (x.s.size : Int)) = 16 - (x.s.size : Int) := by unfold wrap64; omega
  clear hs
  rcases hc with h1 | ⟨h1, h2⟩ | ⟨h1, h2, h3⟩
  case' inl => have hp : pNay x d = (-1, 1) := by unfold pNay; rw [if_pos h1]
  case' inr.inl =>
    have hp : pNay x d = (0, 0) := by unfold pNay; rw [if_neg h1, if_pos h2]
    obtain rfl := size_none h2
  case' inr.inr =>
    have hp : pNay x d = (0, 2) := by unfold pNay; rw [if_neg h1, if_neg (by omega)]
    have hn := list_ne h2
    have hm := list_some d h2
  all_goals
    rw [hp]
    clear hp
    go_enter Try.func30, Try.ntmps30
    go_wp2_with fail
    refine (pis_any L st q _ hV).mono ?_; rintro e w1 ⟨rfl, hv1, t1⟩
    go_wp2_with fail
    refine (pkey_any q _).mono ?_; rintro e w2 ⟨rfl, t2⟩
    have hv2 := hv1.below t2
    go_wp2_with fail
    refine (vget_any L (pSaw st q) 8 q _ hv2).mono ?_; rintro e w3 ⟨rfl, hv3, t3⟩
    rw [gx]
    have t3' := (t1.trans (Turn.of_below t2 _)).trans t3
    clear t1 hv1 t2 hv2 t3
    go_wp2_with fail
    go_ret2
    exact ⟨rfl, hv3.alloc _, t3'.alloc _⟩

/-- What is given into a pipe that holds s. -/
def pGive (s d : ByteArray) : ByteArray := d.extract 0 (min (d.size : Int) (16 - s.size)).toNat

set_option maxRecDepth 20000 in
theorem pwrite_yes (L : Lay) (st : VSt) (q : Int) (d : ByteArray) (x : Val) (hx : st.get 8 q = x) (hh : pHas st q = true) (h1 : ¬ x.n 0 ≤ 0) (h2 : 0 < d.size) (h3 : ¬ 16 - (x.s.size : Int) ≤ 0) (hd : (d.size : Int) ≤ 140737488351232) (w : World) (hV : ViewAt w L st) :
    Calls Try.prog 30 #[.pointer (some ⟨L.v, 0, none⟩), .int .i64 q, .string d] w fun e w' => e = .returned (.tuple #[.int .i64 (pGive x.s d).size, .int .i64 0]) ∧ ViewAt w' L ((pLook st q).put 8 q (x.text (x.s ++ pGive x.s d))) ∧ Turn (fun k => k = L.r ∨ k = L.m) w w' := by
  have gx := gx_of hx
  have e1 : wrap64 (16 - (x.s.size : Int)) = 16 - (x.s.size : Int) := by unfold wrap64; omega
  have hn := list_ne h2
  have hm := list_some d h2
  have key : ((d.size : Int) ≤ 16 - (x.s.size : Int) ∧ pGive x.s d = d) ∨ (16 - (x.s.size : Int) < (d.size : Int) ∧ pGive x.s d = d.extract 0 (16 - (x.s.size : Int)).toNat) := by
    unfold pGive
    by_cases c : (d.size : Int) ≤ 16 - (x.s.size : Int)
    · refine Or.inl ⟨c, ?_⟩
      rw [show (min (d.size : Int) (16 - x.s.size)).toNat = d.size by omega]; exact ByteArray.extract_zero_size
    · exact Or.inr ⟨by omega, by rw [show min (d.size : Int) (16 - x.s.size) = 16 - x.s.size by omega]⟩
  have hs : (x.s.size : Int) < 16 := by omega
  have h30 : 0 < 16 - (x.s.size : Int) := by omega
  obtain ⟨E, hE⟩ : ∃ E, E = pGive x.s d := ⟨_, rfl⟩
  have gE : (E.size : Int) ≤ 16 - (x.s.size : Int) := by
    rw [hE]; unfold pGive; rw [ByteArray.size_extract]; omega
  rw [← hE]
  rw [← hE] at key
  clear hE
  rcases key with ⟨c1, rfl⟩ | ⟨c1, k1⟩
  case' inl =>
    obtain ⟨y, hy⟩ : ∃ y, y = x.text (x.s ++ E) := ⟨_, rfl⟩
    rw [← hy]
    have Hy := Lib.hid hy
    clear hy
  case' inr =>
    have k2 : (min (16 - (x.s.size : Int)).toNat d.size : Nat) = E.size := by rw [k1, ByteArray.size_extract]; omega
    obtain ⟨y, hy⟩ : ∃ y, y = x.text (x.s ++ E) := ⟨_, rfl⟩
    rw [← hy]
    have Hy := Lib.hid hy
    have K1 := Lib.hid k1
    have K2 := Lib.hid k2
    have k1' : d.extract 0 (16 - x.s.size) = E := by rw [k1, show (16 - (x.s.size : Int)).toNat = 16 - x.s.size by omega]
    clear hy k1 k2
  all_goals
    go_enter Try.func30, Try.ntmps30
    go_wp2_with fail
    refine (pis_any L st q _ hV).mono ?_; rintro e w1 ⟨rfl, hv1, t1⟩
    go_wp2_with fail
    refine (pkey_any q _).mono ?_; rintro e w2 ⟨rfl, t2⟩
    have hv2 := hv1.below t2
    go_wp2_with fail
    refine (vget_any L (pSaw st q) 8 q _ hv2).mono ?_; rintro e w3 ⟨rfl, hv3, t3⟩
    rw [gx]
    have t3' := (t1.trans (Turn.of_below t2 _)).trans t3
    clear t1 hv1 t2 hv2 t3
    go_wp2_with fail
    try rw [k1']
    rw [← Hy.out]
    clear Hy
    have b2 : blk (w3.alloc (Obj.cells y.cells 47)) w3.heap.size = some (.cells y.cells 47 (0, 0)) := blk_alloc_at _ _ _ rfl
    have hv4 := hv3.alloc (Obj.cells y.cells 47)
    have t4 := t3'.alloc (Obj.cells y.cells 47)
    clear hv3 t3'
    generalize w3.alloc (Obj.cells y.cells 47) = W2 at *
    generalize w3.heap.size = B at *
    obtain ⟨bd, vd, sd⟩ := at_drew b2 hv4
    go_region_with (first
      | (go_at_call 63; refine (pkey_any q _).mono ?_; rintro e w8 ⟨rfl, t8⟩; have b8 := blk_below t8 bd sd; have v8 := vd.below t8; have r8 := t8.size)
      | (go_at_call 44; refine (vput_any L ((pSaw st q).saw 8 q) 8 q y _ (by assumption)).mono ?_; rintro e w9 ⟨rfl, hv9, t9⟩))
    all_goals
      clear b2 hv4 bd vd b8 v8
      go_wp2_with fail
      go_ret2
      exact ⟨rfl, hv9, ((t4.mono fun _ _ => Or.inl).drew.trans (Turn.of_below t8 _)).trans (t9.mono fun _ _ => Or.inr)⟩

/-- pipe.Write: what it answers, what the view is behind it. -/
def pMay (st : VSt) (q : Int) (d : ByteArray) : Prop := pHas st q = true ∧ 0 < (st.get 8 q).n 0 ∧ 0 < d.size ∧ ((st.get 8 q).s.size : Int) < 16
instance (st : VSt) (q : Int) (d : ByteArray) : Decidable (pMay st q d) := by unfold pMay; exact inferInstance
def pWrote (st : VSt) (q : Int) (d : ByteArray) : Int × Int := if pHas st q = false then (-1, 1) else if pMay st q d then ((pGive (st.get 8 q).s d).size, 0) else pNay (st.get 8 q) d
def pWriteV (st : VSt) (q : Int) (d : ByteArray) : VSt := if pHas st q = false then pSaw st q else if pMay st q d then (pLook st q).put 8 q ((st.get 8 q).text ((st.get 8 q).s ++ pGive (st.get 8 q).s d)) else pLook st q

theorem pwrite_any (L : Lay) (st : VSt) (q : Int) (d : ByteArray) (hs : ((st.get 8 q).s.size : Int) ≤ 140737488351232) (hd : (d.size : Int) ≤ 140737488351232) (w : World) (hV : ViewAt w L st) :
    Calls Try.prog 30 #[.pointer (some ⟨L.v, 0, none⟩), .int .i64 q, .string d] w fun e w' => e = .returned (.tuple #[.int .i64 (pWrote st q d).1, .int .i64 (pWrote st q d).2]) ∧ ViewAt w' L (pWriteV st q d) ∧ Turn (fun k => k = L.r ∨ k = L.m) w w' := by
  unfold pWrote pWriteV
  by_cases a1 : pHas st q = false
  · rw [if_pos a1, if_pos a1]
    exact (pwrite_out L st q d a1 w hV).mono fun e w' ⟨a, b, c⟩ => ⟨a, b, c.mono fun _ _ => Or.inl⟩
  · have hh : pHas st q = true := by simpa using a1
    rw [if_neg a1, if_neg a1]
    by_cases a2 : pMay st q d
    · rw [if_pos a2, if_pos a2]
      obtain ⟨_, b1, b2, b3⟩ := a2
      exact pwrite_yes L st q d _ rfl hh (by omega) b2 (by omega) hd w hV
    · rw [if_neg a2, if_neg a2]
      refine (pwrite_nay L st q d _ rfl hh hs ?_ w hV).mono fun e w' ⟨a, b, c⟩ => ⟨a, b, c.mono fun _ _ => Or.inl⟩
      by_cases c1 : (st.get 8 q).n 0 ≤ 0
      · exact Or.inl c1
      · by_cases c2 : d.size = 0
        · exact Or.inr (Or.inl ⟨c1, c2⟩)
        · refine Or.inr (Or.inr ⟨c1, by omega, ?_⟩)
          apply Decidable.byContradiction
          intro c3
          exact a2 ⟨hh, by omega, by omega, by omega⟩
end Go.Proofs.Ytfcgkjbifnhjjaa.St

namespace Go.Proofs.Ytfcgkjbifnhjjaa.St
open Go.RowKit
set_option linter.unusedVariables false

attribute [local go_sem] blk_alloc_at blk_alloc_past blk_drew blk_drewN blk_setB_same blk_setB_other blk_setRow_other setRow_alloc_at setRow_alloc_past setRow_drewN setRow_drew setB_size setB_cell setB_frozen setB_alloc_past setB_drewN setB_drew run_loadV loadOr_cells run_storeV storeOr_cells cells_size ones_cells cells_0 cells_1 cells_2 cells_16 cells_g0 cells_g1 cells_g2 cells_g16 cells_set0 cells_set1 cells_set2 cells_text
attribute [local go_sem ↓] execOp_loadV execOp_storeV
attribute [local go_sem ↓] wp_at0 wp_at1 wp_at2 wp_at3 wp_at4 wp_at5 wp_at6 wp_at7
attribute [local go_sem] run_fieldN run_indexN


attribute [local irreducible] Int.lt Int.le
set_option maxRecDepth 20000 in
theorem pends_out (L : Lay) (st : VSt) (q : Int) (wr : Bool) (by' : Int) (h1 : pHas st q = false) (w : World) (hV : ViewAt w L st) :
    Calls Try.prog 32 #[.pointer (some ⟨L.v, 0, none⟩), .int .i64 q, .bool wr, .int .i64 by'] w fun e w' => e = .returned (.bool false) ∧ ViewAt w' L (pSaw st q) ∧ Turn (· = L.r) w w' := by
  go_enter Try.func32, Try.ntmps32
  go_wp2_with fail
  refine (pis_any L st q _ hV).mono ?_; rintro e w1 ⟨rfl, hv1, t1⟩
  go_wp2_with fail
  go_ret
  exact ⟨rfl, hv1, t1⟩

/-- A pipe's value with some ends more or fewer. -/
def pTurn (x : Val) (wr : Bool) (k : Int) : Val := if wr then x.set 1 (wrap64 (x.n 1 + k)) else x.set 0 (wrap64 (x.n 0 + k))
theorem pTurn_t (x : Val) (k : Int) : pTurn x true k = x.set 1 (wrap64 (x.n 1 + k)) := rfl
theorem pTurn_f (x : Val) (k : Int) : pTurn x false k = x.set 0 (wrap64 (x.n 0 + k)) := rfl

set_option maxRecDepth 20000 in
theorem pends_keep (L : Lay) (st : VSt) (q : Int) (wr : Bool) (k : Int) (x : Val) (hx : st.get 8 q = x) (hh : pHas st q = true) (hk : decide ((pTurn x wr k).n 0 ≤ 0) = false ∨ decide ((pTurn x wr k).n 0 ≤ 0) = true ∧ decide ((pTurn x wr k).n 1 ≤ 0) = false) (w : World) (hV : ViewAt w L st) :
    Calls Try.prog 32 #[.pointer (some ⟨L.v, 0, none⟩), .int .i64 q, .bool wr, .int .i64 k] w fun e w' => e = .returned (.bool true) ∧ ViewAt w' L ((pLook st q).put 8 q (pTurn x wr k)) ∧ Turn (fun k => k = L.r ∨ k = L.m) w w' := by
  have gx := gx_of hx
  obtain ⟨y, hy⟩ : ∃ y, y = pTurn x wr k := ⟨_, rfl⟩
  rw [← hy]
  rw [← hy] at hk
  have hk' : ¬ y.n 0 ≤ 0 ∨ y.n 0 ≤ 0 ∧ ¬ y.n 1 ≤ 0 := by simpa using hk
  clear hk
  cases wr
  case' false =>
    have Hy := Lib.hid (hy.trans (pTurn_f x k))
    clear hy
  case' true =>
    have Hy := Lib.hid (hy.trans (pTurn_t x k))
    clear hy
  all_goals
    go_enter Try.func32, Try.ntmps32
    go_wp2_with fail
    refine (pis_any L st q _ hV).mono ?_; rintro e w1 ⟨rfl, hv1, t1⟩
    go_wp2_with fail
    refine (pkey_any q _).mono ?_; rintro e w2 ⟨rfl, t2⟩
    have hv2 := hv1.below t2
    go_wp2_with fail
    refine (vget_any L (pSaw st q) 8 q _ hv2).mono ?_; rintro e w3 ⟨rfl, hv3, t3⟩
    rw [gx]
    have t3' := (t1.trans (Turn.of_below t2 _)).trans t3
    clear t1 hv1 t2 hv2 t3
    go_upto_region 8 with fail
    rw [← Hy.out]
    clear Hy
    rcases hk' with k1 | ⟨k1, k2⟩
    all_goals
      go_wp2_with fail
      have b2 : blk (w3.alloc (Obj.cells y.cells 47)) w3.heap.size = some (.cells y.cells 47 (0, 0)) := blk_alloc_at _ _ _ rfl
      have hv4 := hv3.alloc (Obj.cells y.cells 47)
      have t4 := t3'.alloc (Obj.cells y.cells 47)
      clear hv3 t3'
      generalize w3.alloc (Obj.cells y.cells 47) = W2 at *
      generalize w3.heap.size = B at *
      obtain ⟨bd, vd, sd⟩ := at_drew b2 hv4
      go_region_with (first
        | (go_at_call 63; refine (pkey_any q _).mono ?_; rintro e w8 ⟨rfl, t8⟩; have b8 := blk_below t8 bd sd; have v8 := vd.below t8; have r8 := t8.size)
        | (go_at_call 44; refine (vput_any L ((pSaw st q).saw 8 q) 8 q y _ (by assumption)).mono ?_; rintro e w9 ⟨rfl, hv9, t9⟩))
      all_goals
        clear b2 hv4 bd vd b8 v8
        go_wp2_with fail
        go_ret
        exact ⟨rfl, hv9, ((t4.mono fun _ _ => Or.inl).drew.trans (Turn.of_below t8 _)).trans (t9.mono fun _ _ => Or.inr)⟩

/-- Behind the last end. -/
def pGone (st : VSt) (q : Int) : VSt := (pMark (pLook st q) q.toNat false).put 8 q Val.zero

set_option maxRecDepth 20000 in
theorem pends_gone (L : Lay) (st : VSt) (q : Int) (wr : Bool) (k : Int) (x : Val) (hx : st.get 8 q = x) (hh : pHas st q = true) (k1 : (pTurn x wr k).n 0 ≤ 0) (k2 : (pTurn x wr k).n 1 ≤ 0) (w : World) (hV : ViewAt w L st) :
    Calls Try.prog 32 #[.pointer (some ⟨L.v, 0, none⟩), .int .i64 q, .bool wr, .int .i64 k] w fun e w' => e = .returned (.bool true) ∧ ViewAt w' L (pGone st q) ∧ Turn (fun k => k = L.r ∨ k = L.m) w w' := by
  have gx := gx_of hx
  have hz := zero_val
  obtain ⟨q1, q2⟩ := phas_in hh
  obtain ⟨j, rfl⟩ := Int.eq_ofNat_of_zero_le q1
  obtain ⟨y, hy⟩ : ∃ y, y = pTurn x wr k := ⟨_, rfl⟩
  rw [← hy] at k1 k2
  cases wr
  case' false =>
    have Hy := Lib.hid (hy.trans (pTurn_f x k))
    clear hy
  case' true =>
    have Hy := Lib.hid (hy.trans (pTurn_t x k))
    clear hy
  all_goals
    go_enter Try.func32, Try.ntmps32
    go_wp2_with fail
    refine (pis_any L st j _ hV).mono ?_; rintro e w1 ⟨rfl, hv1, t1⟩
    go_wp2_with fail
    refine (pkey_any j _).mono ?_; rintro e w2 ⟨rfl, t2⟩
    have hv2 := hv1.below t2
    go_wp2_with fail
    refine (vget_any L (pSaw st j) 8 j _ hv2).mono ?_; rintro e w3 ⟨rfl, hv3, t3⟩
    rw [gx]
    have t3' := (t1.trans (Turn.of_below t2 _)).trans t3
    clear t1 hv1 t2 hv2 t3
    go_upto_region 8 with fail
    rw [← Hy.out]
    clear Hy
    go_wp2_with fail
    generalize hz0 : Val.zero = z at *
    have b4 : blk (w3.alloc (Obj.cells z.cells 47)) w3.heap.size = some (.cells z.cells 47 (0, 0)) := blk_alloc_at _ _ _ rfl
    have hv4 := hv3.alloc (Obj.cells z.cells 47)
    have t4 := t3'.alloc (Obj.cells z.cells 47)
    have l3 := t3'.size
    have lt := hV.lts
    clear hv3 t3' hz
    generalize w3.alloc (Obj.cells z.cells 47) = W4 at *
    generalize w3.heap.size = B at *
    refine (pmark_any L ((pSaw st j).saw 8 j) j false (by omega) _ hv4).mono ?_; rintro e w5 ⟨rfl, hv5, t5⟩
    have b5 : blk w5 B = some (.cells z.cells 47 (0, 0)) := blk_of_turn t5 b4 (by omega)
    have t5' := (t4.mono fun _ _ => Or.inl).trans t5
    clear hv4 b4 t4 t5
    go_wp2_with fail
    obtain ⟨bd, vd, sd⟩ := at_drew b5 hv5
    go_region_with (first
      | (go_at_call 63; refine (pkey_any j _).mono ?_; rintro e w8 ⟨rfl, t8⟩; have b8 := blk_below t8 bd sd; have v8 := vd.below t8; have r8 := t8.size)
      | (go_at_call 44; refine (vput_any L (pMark ((pSaw st j).saw 8 j) j false) 8 j z _ (by assumption)).mono ?_; rintro e w9 ⟨rfl, hv9, t9⟩))
    all_goals
      clear b5 hv5 bd vd b8 v8
      go_wp2_with fail
      go_ret
      exact ⟨rfl, by unfold pGone pLook; rw [hz0]; exact hv9, (t5'.drew.trans (Turn.of_below t8 _)).trans (t9.mono fun _ _ => Or.inr)⟩

/-- pipe.Ends: it answers 'pHas'; what the view is behind it. -/
def pEnds (st : VSt) (q : Int) (wr : Bool) (k : Int) : VSt := if pHas st q = false then pSaw st q else if (pTurn (st.get 8 q) wr k).n 0 ≤ 0 ∧ (pTurn (st.get 8 q) wr k).n 1 ≤ 0 then pGone st q else (pLook st q).put 8 q (pTurn (st.get 8 q) wr k)

theorem pends_any (L : Lay) (st : VSt) (q : Int) (wr : Bool) (k : Int) (w : World) (hV : ViewAt w L st) :
    Calls Try.prog 32 #[.pointer (some ⟨L.v, 0, none⟩), .int .i64 q, .bool wr, .int .i64 k] w fun e w' => e = .returned (.bool (pHas st q)) ∧ ViewAt w' L (pEnds st q wr k) ∧ Turn (fun k => k = L.r ∨ k = L.m) w w' := by
  unfold pEnds
  cases hh : pHas st q with
  | false => rw [if_pos rfl]; exact (pends_out L st q wr k hh w hV).mono fun e w' ⟨a, b, c⟩ => ⟨a, b, c.mono fun _ _ => Or.inl⟩
  | true =>
    rw [if_neg (by decide)]
    by_cases hg : (pTurn (st.get 8 q) wr k).n 0 ≤ 0 ∧ (pTurn (st.get 8 q) wr k).n 1 ≤ 0
    · rw [if_pos hg]; exact pends_gone L st q wr k _ rfl hh hg.1 hg.2 w hV
    · rw [if_neg hg]; refine pends_keep L st q wr k _ rfl hh ?_ w hV
      by_cases h1 : (pTurn (st.get 8 q) wr k).n 0 ≤ 0
      · exact Or.inr ⟨decide_eq_true h1, decide_eq_false fun h2 => hg ⟨h1, h2⟩⟩
      · exact Or.inl (decide_eq_false h1)
end Go.Proofs.Ytfcgkjbifnhjjaa.St
