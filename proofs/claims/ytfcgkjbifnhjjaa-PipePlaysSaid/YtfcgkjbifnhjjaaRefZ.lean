/- The document's own Redo. No condition but those written in each statement. -/
import Derived.Test.YtfcgkjbifnhjjaaRefY
import Derived.Test.YtfcgkjbifnhjjaaVwB
namespace Go.Proofs.Ytfcgkjbifnhjjaa.St
open Go.RowKit
set_option linter.unusedVariables false

attribute [local irreducible] Int.lt Int.le
set_option maxRecDepth 100000 in
set_option maxHeartbeats 1000000 in
theorem rvredo_any (L : RLay) (st : VSt) (w : World) (hV : RViewAt w L st) :
    Calls Try.prog 50 #[.pointer (some ⟨L.q, 0, none⟩)] w fun e w' => ∃ v, e = .returned v ∧ WL w.heap.size w' v (wrL st) ∧ Below w.heap.size w w' := by
  have hwr := rwritten_any L st w hV
  have HW := Lib.hid hwr
  obtain ⟨es2, clk2, hb2, hk2⟩ := hV.cm
  have c2 := cell_of_row w L.q 2 _ _ _ hV.cq
  simp only [List.getElem?_toArray, List.getElem?_cons_succ, List.getElem?_cons_zero] at c2
  have hcq := hV.cq
  have hlv := lt_of_heap hV.cq
  have hlm := lt_of_heap hb2
  clear hwr hV
  go_enter Try.func50, Try.ntmps50
  go_wp2_with fail
  refine HW.out.mono ?_; rintro e w2 ⟨B, esW, clkW, g, rfl, hB0, hbW, hkW, hg1, hg2, b2⟩
  have hls := rlist_in B esW clkW g hkW hg1 w2 hbW
  rw [show (plF fun k n => (g k n).isSome) = wrP st from plF_congr fun k n _ => hg2 k n] at hls
  have HS := Lib.hid hls
  clear hls hkW hg1 hg2 hbW HW
  go_wp2_with fail
  refine HS.out.mono ?_; rintro e w3 ⟨v3, rfl, h3, t3⟩
  have b3 := b2.trans (t3.mono b2.size)
  obtain ⟨a, c, rfl, hkr, _, _⟩ := h3.kr
  have hpl : (wrP st).length ≤ 55 := rise_len _ (plF_rises _) (plF_lt _)
  have hpr : ∀ i (h : i < (wrP st).length), 0 ≤ placeI (sk (wrP st) i).1 (sk (wrP st) i).2 ∧ placeI (sk (wrP st) i).1 (sk (wrP st) i).2 < 55 := fun i h => by
    rw [sk_place (wrP st) (plF_lt _) i h]
    exact plF_lt _ _ (List.getElem_mem h)
  have hkb : ∀ i (h : i < (wrP st).length), (sk (wrP st) i).1 ≤ 9223372036854775807 := fun i h => by
    have := (place_range _ _ (hpr i h).1).2.2.2.1; omega
  have HPR := Lib.hid hpr
  have HKB := Lib.hid hkb
  clear t3 b2 HS h3 hpr hkb
  have hstep := wrL_step st
  have HST := Lib.hid hstep
  have hlen := wrL_len st
  have HLEN := Lib.hid hlen
  clear hstep hlen
  generalize wrP st = ps at *
  go_wp2_with fail
  go_loopw [3, 10] (fun v i wr => ∃ j : Nat, j ≤ ps.length ∧ i = .int .i64 (j : Int) ∧ WL w3.heap.size wr v ((wrL st).take j) ∧ Below w3.heap.size w3 wr) (fun _ i _ => ps.length - (intOf i).toNat)
  case atStart => exact ⟨0, by omega, rfl, by rw [List.take_zero]; exact WL.nil _ _, Below.refl _ _⟩
  case round =>
    obtain ⟨j, hj, rfl, hown, hb3⟩ := hrel
    have hbw := b3.trans (hb3.mono b3.size)
    have hsz := b3.size
    by_cases hlt : j < ps.length
    · have l1 : (j : Int) < (ps.length : Int) := by omega
      have l0 : (0 : Int) ≤ (j : Int) := by omega
      obtain ⟨x, rfl, y0, y1⟩ := (hkr.below hb3) j hlt
      have hst := HST.out j hlt
      have hp0 := HPR.out j hlt
      have hkk := HKB.out j hlt
      have hlook := fun (W : World) (q : blk W L.m = some (.map es2 clk2)) => (run_lookI Try.underlying85 hk2 (placeI (sk ps j).1 (sk ps j).2) (place_wfI _ _) W q (zero_val W)).2
      have hval : (inR (wrV st) (placeI (sk ps j).1 (sk ps j).2)).getD (.agg Val.zero.cells) = .agg ((st.wr (sk ps j).1 (sk ps j).2).getD Val.zero).cells := by
        rw [inR_at _ _ _ hp0.1]
        unfold wrV
        cases st.wr (sk ps j).1 (sk ps j).2 <;> rfl
      rw [hval] at hlook
      have hpl2 := fun W => rplace_any (sk ps j).1 (sk ps j).2 hkk W
      have hl55 : ((wrL st).take j).length ≤ 10000 := by rw [List.length_take]; omega
      have HSTJ := Lib.hid hst
      have HP := Lib.hid hpl2
      clear hst hval hkr hpl2 hp0 hkk
      rw [show sk ps j = ((sk ps j).1, (sk ps j).2) from rfl] at HSTJ
      generalize ((st.wr (sk ps j).1 (sk ps j).2).getD Val.zero) = X at *
      generalize (sk ps j).1 = A at *
      generalize (sk ps j).2 = C at *
      generalize placeI A C = P at *
      go_upto_region 5 with fail
      have bA : Below wr.heap.size wr (wr.alloc (.cells #[.int .i64 A, .int .i64 C] 51)) := (Below.refl _ _).alloc (Nat.le_refl _) _
      have kb : blk (wr.alloc (.cells #[.int .i64 A, .int .i64 C] 51)) wr.heap.size = some (.cells #[.int .i64 A, .int .i64 C] 51 (0, 0)) := heap_alloc_new _ _
      have hbw2 := hbw.trans (bA.mono hbw.size)
      have hb32 := hb3.trans (bA.mono hb3.size)
      have hown2 := hown.below bA
      have hcm : (wr.alloc (.cells #[.int .i64 A, .int .i64 C] 51)).cell? ⟨L.q, 2, none⟩ = some (.map (some L.m)) := (hbw2.cell hlv).trans c2
      clear y0 y1 bA hbw hb3 hown
      generalize wr.alloc (.cells #[.int .i64 A, .int .i64 C] 51) = W4 at *
      generalize wr.heap.size = K at *
      have k0 := cell_of_row W4 K 0 _ _ _ kb
      have k1 := cell_of_row W4 K 1 _ _ _ kb
      have S0 : (fun W => (W.cell? ⟨K, 0, none⟩ = some (.int .i64 A) ∧ W.cell? ⟨K, 1, none⟩ = some (.int .i64 C)) ∧ W.cell? ⟨L.q, 2, none⟩ = some (.map (some L.m))) W4.drew := ⟨⟨k0, k1⟩, hcm⟩
      refine wp_region_held_drew (S := fun W => (W.cell? ⟨K, 0, none⟩ = some (.int .i64 A) ∧ W.cell? ⟨K, 1, none⟩ = some (.int .i64 C)) ∧ W.cell? ⟨L.q, 2, none⟩ = some (.map (some L.m))) (by kernel_rfl) S0 (fun hHeld => ?_)
      refine reg_take (i := 0) (v := ?_) rfl rfl (by kernel_rfl) (by kernel_rfl) (by kernel_rfl) (fun _ _ _ h => h) (by assumption) (by rfl) ?_ ?_
      rotate_left 1
      · (intro w hSw; (try dsimp only at hSw); go_simp; try with_reducible rfl)
      try simp only [List.setIfInBounds_toArray, List.set_cons_zero, List.set_cons_succ]
      refine reg_take (i := 1) (v := ?_) rfl rfl (by kernel_rfl) (by kernel_rfl) (by kernel_rfl) (fun _ _ _ h => h) (by assumption) (by rfl) ?_ ?_
      rotate_left 1
      · (intro w hSw; (try dsimp only at hSw); go_simp; try with_reducible rfl)
      try simp only [List.setIfInBounds_toArray, List.set_cons_zero, List.set_cons_succ]
      refine reg_take (i := 2) (v := ?_) rfl rfl (by kernel_rfl) (by kernel_rfl) (by kernel_rfl) (fun _ _ _ h => h) (by assumption) (by rfl) ?_ ?_
      rotate_left 1
      · (intro w hSw; (try dsimp only at hSw); go_simp; try with_reducible rfl)
      try simp only [List.setIfInBounds_toArray, List.set_cons_zero, List.set_cons_succ]
      refine reg_take (i := 3) (v := ?_) rfl rfl (by kernel_rfl) (by kernel_rfl) (by kernel_rfl) (fun _ _ _ h => h) (by assumption) (by rfl) ?_ ?_
      rotate_left 1
      · (intro w hSw; (try dsimp only at hSw); go_simp; try with_reducible rfl)
      try simp only [List.setIfInBounds_toArray, List.set_cons_zero, List.set_cons_succ]
      refine reg_take (i := 4) (v := ?_) rfl rfl (by kernel_rfl) (by kernel_rfl) (by kernel_rfl) (fun _ _ _ h => h) (by assumption) (by rfl) ?_ ?_
      rotate_left 1
      · (intro w hSw; (try dsimp only at hSw); go_simp; try with_reducible rfl)
      try simp only [List.setIfInBounds_toArray, List.set_cons_zero, List.set_cons_succ]
      refine reg_take (i := 5) (v := ?_) rfl rfl (by kernel_rfl) (by kernel_rfl) (by kernel_rfl) (fun _ _ _ h => h) (by assumption) (by rfl) ?_ ?_
      rotate_left 1
      · (intro w hSw; (try dsimp only at hSw); go_simp; try with_reducible rfl)
      try simp only [List.setIfInBounds_toArray, List.set_cons_zero, List.set_cons_succ]
      refine reg_take (i := 6) (v := ?_) rfl rfl (by kernel_rfl) (by kernel_rfl) (by kernel_rfl) (fun _ _ _ h => h) (by assumption) (by rfl) ?_ ?_
      rotate_left 1
      · (intro w hSw; (try dsimp only at hSw); go_simp; try with_reducible rfl)
      try simp only [List.setIfInBounds_toArray, List.set_cons_zero, List.set_cons_succ]
      refine reg_step (i := 7) (by kernel_rfl) rfl (by rfl) (fun KC hKC => ?_)
      go_simp
      refine (HP.out _).mono ?_; rintro e w5 ⟨rfl, t5⟩
      have t5' : Below W4.heap.size W4 w5 := (below_drewN (Below.refl _ W4) 1).trans t5
      have s5 : (w5.cell? ⟨K, 0, none⟩ = some (.int .i64 A) ∧ w5.cell? ⟨K, 1, none⟩ = some (.int .i64 C)) ∧ w5.cell? ⟨L.q, 2, none⟩ = some (.map (some L.m)) := ⟨cells_two hHeld.1 t5, (t5.cell (cell_block_lt hHeld.2)).trans hHeld.2⟩
      have hown5 := hown2.below t5'
      have hbw5 := hbw2.trans (t5'.mono hbw2.size)
      have hb35 := hb32.trans (t5'.mono hb32.size)
      have kb5 : blk w5 K = _ := (t5'.block K (lt_of_heap kb)).trans kb
      have hbm5 : blk w5 L.m = some (.map es2 clk2) := (hbw5.block L.m hlm).trans hb2
      have hlk := hlook w5 hbm5
      clear t5 t5' hHeld S0 k0 k1 hcm hbw2 hb32 hown2 kb hlook
      refine hKC.out _ _ ?_ (fun hHeld => ?_)
      · exact s5
      clear hKC KC
      refine reg_run (i := 8) (v := .agg X.cells) (w' := w5) (by kernel_rfl) rfl rfl (by rfl) (run_op_look rfl rfl hlk) s5 (fun hHeld => ?_)
      try simp only [List.setIfInBounds_toArray, List.set_cons_zero, List.set_cons_succ]
      clear hlk
      refine reg_take (i := 9) (v := .agg (wcells A C X)) rfl rfl (by kernel_rfl) (by kernel_rfl) (by kernel_rfl) (fun _ _ _ h => h) (by assumption) (by rfl) (fun w _ => by kernel_rfl) ?_
      try simp only [List.setIfInBounds_toArray, List.set_cons_zero, List.set_cons_succ]
      have bB : Below w5.heap.size w5 (w5.alloc (.cells (wcells A C X) 73)) := (Below.refl _ _).alloc (Nat.le_refl _) _
      have hS2 : (fun W => (W.cell? ⟨K, 0, none⟩ = some (.int .i64 A) ∧ W.cell? ⟨K, 1, none⟩ = some (.int .i64 C)) ∧ W.cell? ⟨L.q, 2, none⟩ = some (.map (some L.m))) (w5.alloc (.cells (wcells A C X) 73)) :=
        ⟨cells_two s5.1 bB, (bB.cell (cell_block_lt s5.2)).trans s5.2⟩
      refine reg_run (i := 10) (v := .slice (some ⟨w5.heap.size, 0, none⟩) 1 1) (w' := w5.alloc (.cells (wcells A C X) 73)) (by kernel_rfl) rfl rfl (by rfl) (by kernel_rfl) hS2 (fun hHeld => ?_)
      try simp only [List.setIfInBounds_toArray, List.set_cons_zero, List.set_cons_succ]
      have hown6 := hown5.below bB
      have kb6 : blk (w5.alloc (.cells (wcells A C X) 73)) K = _ := (bB.block K (lt_of_heap kb5)).trans kb5
      have hbw6 := hbw5.trans (bB.mono hbw5.size)
      have hb36 := hb35.trans (bB.mono hb35.size)
      have cv6 : blk (w5.alloc (.cells (wcells A C X) 73)) L.q = _ := (hbw6.block L.q hlv).trans hcq
      obtain ⟨v', W7, hrun, hwl, hbb, hgr⟩ := wl_push hown6 hb36.size hl55 w5.heap.size A C X (heap_alloc_new _ _) 22
      have kb7 := blk_grown hgr kb6 (hown6.ne kb6 (by decide))
      have cv7 := blk_grown hgr cv6 (hown6.low (Nat.lt_of_lt_of_le hlv hsz))
      have m1 := cell_of_row W7 K 0 _ _ _ kb7
      have m2 := cell_of_row W7 K 1 _ _ _ kb7
      have m3 := cell_of_row W7 L.q 2 _ _ _ cv7
      have s7 : (fun W => (W.cell? ⟨K, 0, none⟩ = some (.int .i64 A) ∧ W.cell? ⟨K, 1, none⟩ = some (.int .i64 C)) ∧ W.cell? ⟨L.q, 2, none⟩ = some (.map (some L.m))) W7 := ⟨⟨m1, m2⟩, m3⟩
      have hb37 := hb36.trans hbb
      clear hHeld
      refine reg_step (i := 11) (by kernel_rfl) rfl (by rfl) (fun KC hKC => ?_)
      refine wp_run_append _ _ _ rfl rfl rfl hrun ?_
      go_simp
      clear m1 m2 m3 kb7 cv7 kb6 cv6 hgr hrun hown6 hown5 hS2 kb5 hbm5 s5 bB
      refine hKC.out _ _ ?_ (fun hHeld => ?_)
      · exact s7
      clear hKC KC
      refine reg_take (i := 12) (v := ?_) rfl rfl (by kernel_rfl) (by kernel_rfl) (by kernel_rfl) (fun _ _ _ h => h) (by assumption) (by rfl) ?_ ?_
      rotate_left 1
      · (intro w hSw; (try dsimp only at hSw); go_simp; try with_reducible rfl)
      try simp only [List.setIfInBounds_toArray, List.set_cons_zero, List.set_cons_succ]
      refine wpAnyH_done (by kernel_rfl) ?_ _
      clear s7 hHeld hbw6 hbw5 hb35 hb36 hbb
      have hfin : WL w3.heap.size W7 v' ((wrL st).take (j + 1)) := by rw [HSTJ.out]; exact hwl
      clear hwl HSTJ
      go_wp2_with fail
      exact ⟨⟨j + 1, by omega, by go_num, hfin, hb37⟩, by simp [intOf]; omega⟩
    · obtain rfl : j = ps.length := by omega
      rw [← HLEN.out, List.take_length] at hown
      clear hkr HST
      have hB := b3.size
      go_wp2_with fail
      go_ret
      exact ⟨_, rfl, hown.mono hB, hbw⟩
end Go.Proofs.Ytfcgkjbifnhjjaa.St
