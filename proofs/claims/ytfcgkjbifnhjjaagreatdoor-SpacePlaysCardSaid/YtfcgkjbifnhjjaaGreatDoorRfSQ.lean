/- The contract of the document's own process state and of its space's Grow over its own view. No condition but those written in each statement. -/
import Derived.Test.YtfcgkjbifnhjjaaGreatDoorQ60
import Derived.Test.YtfcgkjbifnhjjaaGreatDoorQ63
import Derived.Test.YtfcgkjbifnhjjaaGreatDoorQ62
import Derived.Test.YtfcgkjbifnhjjaaGreatDoorNmDQ
namespace Go.Proofs.YtfcgkjbifnhjjaaGreatDoor.St
open Go.RowKit
set_option linter.unusedVariables false
attribute [local go_sem] blk_alloc_at blk_alloc_past blk_drew blk_drewN blk_setB_same blk_setB_other blk_setRow_other setRow_alloc_at setRow_alloc_past setRow_drewN setRow_drew setB_size setB_cell setB_frozen setB_alloc_past setB_drewN setB_drew run_loadV loadOr_cells run_storeV storeOr_cells cells_size ones_cells cells_0 cells_1 cells_2 cells_16 cells_g0 cells_g1 cells_g2 cells_g16 cells_set0 cells_set1 cells_set2 cells_text run_field0 run_field1 run_index0
attribute [local go_sem ↓] execOp_loadV execOp_storeV
attribute [local irreducible] Int.lt Int.le
theorem rpkey_any (i : Int) (w : World) :
    Calls Tryz.prog 38 #[.int .i64 i] w fun e w' => e = .returned (keyV 4 i) ∧ Below w.heap.size w w' := by
  go_enter Tryz.func38, Tryz.ntmps38
  go_wp2_with fail
  exact bodyPost_key (b := w.heap.size) rfl rfl rfl (heap_alloc_new _ _) rfl ⟨rfl, (Below.refl _ _).alloc (Nat.le_refl _) _⟩
theorem rmkey_any (i : Int) (w : World) :
    Calls Tryz.prog 39 #[.int .i64 i] w fun e w' => e = .returned (keyV 12 i) ∧ Below w.heap.size w w' := by
  go_enter Tryz.func39, Tryz.ntmps39
  go_wp2_with fail
  exact bodyPost_key (b := w.heap.size) rfl rfl rfl (heap_alloc_new _ _) rfl ⟨rfl, (Below.refl _ _).alloc (Nat.le_refl _) _⟩
set_option maxRecDepth 100000 in
set_option maxHeartbeats 1000000 in
theorem rstate_any (R : RLay) (st : VSt) (p : Int) (w : World) (hV : RViewAt w R st) :
    Calls Tryz.prog 36 #[.pointer (some ⟨R.q, 0, none⟩), .int .i64 p] w fun e w' => e = .returned (.int .i64 (qState st p)) ∧ RViewAt w' R (qSaw st p) ∧ Turn (· = R.r) w w' := by
  have hz := zero_val
  unfold qState qVal qSaw qUsed
  by_cases h : p < 0 ∨ 8 ≤ p
  · rw [if_pos h, if_neg (by decide), if_pos h]
    have hh : decide (p < 0) = true ∨ decide (p < 0) = false ∧ decide (8 ≤ p) = true := by simp; omega
    rcases hh with h1 | ⟨h1, h2⟩
    all_goals
      go_enter Tryz.func36, Tryz.ntmps36
      go_wp2_with fail
      go_ret
      exact ⟨rfl, hV, Turn.refl _ _⟩
  · rw [if_neg h, if_neg h]
    have h1 : decide (p < 0) = false := decide_eq_false (by omega)
    have h2 : decide (8 ≤ p) = false := decide_eq_false (by omega)
    obtain ⟨j, rfl⟩ := Int.eq_ofNat_of_zero_le (show 0 ≤ p by omega)
    rw [Int.toNat_natCast]
    have lt := hV.lts
    have j0 : (0 : Int) ≤ (j : Int) := by omega
    have j1 : (j : Int) < 64 := by omega
    cases hu : usedI ((st.get 3 0).n 0) j with
    | false =>
      have e := used_not ((st.get 3 0).n 0) j
      rw [hu] at e
      rw [if_neg (by decide), if_neg (by decide)]
      clear h hu
      go_enter Tryz.func36, Tryz.ntmps36
      go_wp2_with fail
      refine (rvget_any R st 3 0 (by decide) _ hV).mono ?_; rintro e w2 ⟨rfl, hv2, t2⟩
      generalize hg : st.get 3 0 = x at *
      go_wp2_with fail
      go_ret
      exact ⟨rfl, hv2, t2⟩
    | true =>
      have e := used_not ((st.get 3 0).n 0) j
      rw [hu] at e
      rw [if_pos rfl, if_pos rfl]
      clear h hu
      go_enter Tryz.func36, Tryz.ntmps36
      go_wp2_with fail
      refine (rvget_any R st 3 0 (by decide) _ hV).mono ?_; rintro e w2 ⟨rfl, hv2, t2⟩
      have T2 := t2
      generalize hg : st.get 3 0 = x at *
      clear t2 hV
      go_wp2_with fail
      refine (rpkey_any _ _).mono ?_; rintro e w3 ⟨rfl, t3⟩
      have hv3 := hv2.below t3
      have T3 := T2.trans (Turn.of_below t3 _)
      clear hv2 T2 t3
      go_wp2_with fail
      refine (rvget_any R _ 4 j (by decide) _ hv3).mono ?_; rintro e w4 ⟨rfl, hv4, t4⟩
      rw [get_saw']
      generalize hg4 : st.get 4 (j : Int) = y at *
      go_wp2_with fail
      go_ret
      exact ⟨by rw [hg4]; rfl, hv4, T3.trans t4⟩
end Go.Proofs.YtfcgkjbifnhjjaaGreatDoor.St
