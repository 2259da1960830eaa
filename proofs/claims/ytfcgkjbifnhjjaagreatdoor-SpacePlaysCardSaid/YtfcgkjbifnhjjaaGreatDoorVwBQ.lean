/- The contract of View.Redo. No condition but those written in each statement. -/
import Derived.Test.YtfcgkjbifnhjjaaGreatDoorQ58
import Derived.Test.YtfcgkjbifnhjjaaGreatDoorWriQ
namespace Go.Proofs.YtfcgkjbifnhjjaaGreatDoor.St
open Go.RowKit Go.Shelf
set_option linter.unusedVariables false

/-- What was written, by rising places. -/
def wrL (st : VSt) : List Wr := (wrP st).map fun p => (keyP p, (st.wr (keyP p).1 (keyP p).2).getD Val.zero)
theorem wrL_len (st : VSt) : (wrL st).length = (wrP st).length := by unfold wrL; simp
theorem wrL_step (st : VSt) (j : Nat) (h : j < (wrP st).length) : (wrL st).take (j + 1) = (wrL st).take j ++ [(sk (wrP st) j, (st.wr (sk (wrP st) j).1 (sk (wrP st) j).2).getD Val.zero)] := by
  rw [List.take_succ_eq_append_getElem (by rw [wrL_len]; exact h)]
  congr 2
  have e : sk (wrP st) j = keyP (wrP st)[j] := sk_get _ j h
  rw [e]
  unfold wrL
  simp
theorem run_look0 {r T E : Nat} {es : Array MapEntry} {clk : Nat} {f : Int → Int → Option Value} {z : Value} (hT : Tryz.prog.underlying T = some (.map 57 E)) (h : KM es clk f) (a b : Int) (W : World)
    (hb : W.heap[r]? = some (.map es clk)) (hz : (zeroValue E).run Tryz.prog W = .ok z W) :
    (Instr.lookup T (.map (some r)) (keyV a b) false).run Tryz.prog W = .ok ((f a b).getD z) W := by
  unfold Instr.lookup
  simp only [Sem.run_bind, run_underlying hT, Result.andThen_ok, MapKept.run_getObj_map hb, Sem.run_pure, key_check]
  rcases run_find h a b W with ⟨h1, h2⟩ | ⟨i, e, h1, h2, h3, h4⟩
  · simp only [h2, Result.andThen_ok, hz, Sem.run_bind, Sem.run_pure, h1]
    rfl
  · simp only [h4, Result.andThen_ok, Sem.run_bind, Sem.run_pure, h2]
    rfl
attribute [local irreducible] Int.lt Int.le
set_option maxRecDepth 100000 in
set_option maxHeartbeats 1000000 in
theorem vredo_any (L : Lay) (st : VSt) (w : World) (hV : ViewAt w L st) (hO : VOk st) :
    Calls Tryz.prog 22 #[.pointer (some ⟨L.v, 0, none⟩)] w fun e w' => ∃ v, e = .returned v ∧ WL w.heap.size w' v (wrL st) ∧ Below w.heap.size w w' := by
  obtain ⟨es2, clk2, hb2, hk2⟩ := hV.cm
  have c2 := cell_of_row w L.v 2 _ _ _ hV.cv
  simp only [List.getElem?_toArray, List.getElem?_cons_succ, List.getElem?_cons_zero] at c2
  have hlv := lt_of_heap hV.cv
  have hlm := lt_of_heap hb2
  have hq : ∀ k n v, (st.wr k n).map (fun x => Value.agg x.cells) = some v → 0 ≤ placeI k n := fun k n v h => by
    obtain ⟨x, hx, _⟩ := Option.map_eq_some_iff.1 h
    exact hO.wr k n x hx
  have HQ := Lib.hid hq
  clear hq
  go_enter Tryz.func22, Tryz.ntmps22
  go_wp2_with fail
  refine (mkeysW _ _).mono ?_; rintro e w1 ⟨rfl, rfl⟩
  have b1 : Below w.heap.size w (w.alloc (.cells #[.map (some L.m)] 102)) := (Below.refl w.heap.size w).alloc (Nat.le_refl w.heap.size) _
  have hm1 : (w.alloc (.cells #[.map (some L.m)] 102)).cell? ⟨w.heap.size, 0, none⟩ = some (.map (some L.m)) := cell_of_row _ _ 0 _ _ _ (heap_alloc_new _ _)
  have hb1 := (b1.block L.m hlm).trans hb2
  have hc := ckeysW L.m es2 clk2 _ hk2 HQ.out w.heap.size _ hm1 hb1
  have HC := Lib.hid hc
  clear hc hm1 hb1
  go_wp2_with fail
  refine HC.out.mono ?_; rintro e w2 ⟨v, ks, rfl, hK, hks, t2⟩
  have hl := hK.len HQ.out
  have hs := kls_sort (h := fun k n => (st.wr k n).isSome) hks (by omega) (fun k n _ => by rw [hK.2 (k, n), Option.isSome_map])
  have b2 := b1.trans (t2.mono b1.size)
  have HS := Lib.hid hs
  clear hs hK hks t2 b1 HC
  go_wp2_with fail
  refine HS.out.mono ?_; rintro e w3 ⟨v3, rfl, h3, t3⟩
  have b3 := b2.trans (t3.mono b2.size)
  obtain ⟨a, c, rfl, hkr, _, _⟩ := h3.kr
  have hpl : (wrP st).length ≤ 55 := rise_len _ (plF_rises _) (plF_lt _)
  rw [show (plF fun k n => (st.wr k n).isSome) = wrP st from rfl] at hkr ⊢
  clear t3 b2 HS h3
  have hstep := wrL_step st
  have HST := Lib.hid hstep
  have hlen := wrL_len st
  have HLEN := Lib.hid hlen
  clear hstep hlen
  generalize wrP st = ps at *
  go_wp2_with fail
  go_loopw [3, 14] (fun v i wr => ∃ j : Nat, j ≤ ps.length ∧ i = .int .i64 (j : Int) ∧ WL w3.heap.size wr v ((wrL st).take j) ∧ Below w3.heap.size w3 wr) (fun _ i _ => ps.length - (intOf i).toNat)
  case atStart => exact ⟨0, by omega, rfl, by rw [List.take_zero]; exact WL.nil _ _, Below.refl _ _⟩
  case round =>
    obtain ⟨j, hj, rfl, hown, hb3⟩ := hrel
    have hbw := b3.trans (hb3.mono b3.size)
    have hsz := b3.size
    by_cases hlt : j < ps.length
    · have l1 : (j : Int) < (ps.length : Int) := by omega
      have l0 : (0 : Int) ≤ (j : Int) := by omega
      obtain ⟨x, rfl, y0, y1⟩ := (hkr.below hb3) j hlt
      have hst := HST.out j hlt
      have hlook := fun (W : World) (q : blk W L.m = some (.map es2 clk2)) => run_look0 Tryz.underlying102 hk2 (sk ps j).1 (sk ps j).2 W q (zero_val W)
      have hval : ((st.wr (sk ps j).1 (sk ps j).2).map fun x => Value.agg x.cells).getD (.agg Val.zero.cells) = .agg ((st.wr (sk ps j).1 (sk ps j).2).getD Val.zero).cells := by
        cases st.wr (sk ps j).1 (sk ps j).2 <;> rfl
      rw [hval] at hlook
      have hl55 : ((wrL st).take j).length ≤ 10000 := by rw [List.length_take]; omega
      have HSTJ := Lib.hid hst
      clear hst hval hkr
      rw [show sk ps j = ((sk ps j).1, (sk ps j).2) from rfl] at HSTJ
      generalize ((st.wr (sk ps j).1 (sk ps j).2).getD Val.zero) = X at *
      generalize (sk ps j).1 = A at *
      generalize (sk ps j).2 = C at *
      go_upto_region 5 with fail
      have bA : Below wr.heap.size wr (wr.alloc (.cells #[.int .i64 A, .int .i64 C] 57)) := (Below.refl _ _).alloc (Nat.le_refl _) _
      have k0 : (wr.alloc (.cells #[.int .i64 A, .int .i64 C] 57)).cell? ⟨wr.heap.size, 0, none⟩ = some (.int .i64 A) := cell_of_row _ _ 0 _ _ _ (heap_alloc_new _ _)
      have kb : blk (wr.alloc (.cells #[.int .i64 A, .int .i64 C] 57)) wr.heap.size = some (.cells #[.int .i64 A, .int .i64 C] 57 (0, 0)) := heap_alloc_new _ _
      have k1 : (wr.alloc (.cells #[.int .i64 A, .int .i64 C] 57)).cell? ⟨wr.heap.size, 1, none⟩ = some (.int .i64 C) := cell_of_row _ _ 1 _ _ _ (heap_alloc_new _ _)
      have hbw2 := hbw.trans (bA.mono hbw.size)
      have hb32 := hb3.trans (bA.mono hb3.size)
      have hown2 := hown.below bA
      have hcm : (wr.alloc (.cells #[.int .i64 A, .int .i64 C] 57)).cell? ⟨L.v, 2, none⟩ = some (.map (some L.m)) := (hbw2.cell hlv).trans c2
      have hbm : blk (wr.alloc (.cells #[.int .i64 A, .int .i64 C] 57)) L.m = some (.map es2 clk2) := (hbw2.block L.m hlm).trans hb2
      clear y0 y1 bA hbw hb3 hown
      generalize wr.alloc (.cells #[.int .i64 A, .int .i64 C] 57) = W4 at *
      generalize wr.heap.size = K at *
      have S0 : (fun W => W.cell? ⟨K, 0, none⟩ = some (.int .i64 A) ∧ W.cell? ⟨K, 1, none⟩ = some (.int .i64 C) ∧ W.cell? ⟨L.v, 2, none⟩ = some (.map (some L.m))) W4.drew := ⟨k0, k1, hcm⟩
      refine wp_region_held_drew (S := fun W => W.cell? ⟨K, 0, none⟩ = some (.int .i64 A) ∧ W.cell? ⟨K, 1, none⟩ = some (.int .i64 C) ∧ W.cell? ⟨L.v, 2, none⟩ = some (.map (some L.m))) (by kernel_rfl) S0 (fun hHeld => ?_)
      refine reg_take (i := 0) (v := ?_) rfl rfl (by kernel_rfl) (by kernel_rfl) (by kernel_rfl) (fun _ _ _ h => h) (by assumption) (by rfl) ?_ ?_
      rotate_left 1
      · (intro w hSw; (try dsimp only at hSw); go_simp; try with_reducible rfl)
      try simp only [List.setIfInBounds_toArray, List.set_cons_zero, List.set_cons_succ]
      refine reg_take (i := 1) (v := ?_) rfl rfl (by kernel_rfl) (by kernel_rfl) (by kernel_rfl) (fun _ _ _ h => h) (by assumption) (by rfl) ?_ ?_
      rotate_left 1
      · (intro w hSw; (try dsimp only at hSw); go_simp; try with_reducible rfl)
      try simp only [List.setIfInBounds_toArray, List.set_cons_zero, List.set_cons_succ]
      refine reg_take (i := 2) (v := ?_) rfl rfl (by kernel_rfl) (by kernel_rfl) (by kernel_rfl) (fun _ _ _ h => h) (by assumption) (by rfl) ?_ ?_
      rotate_left 1
      · (intro w hSw; (try dsimp only at hSw); go_simp; try with_reducible rfl)
      try simp only [List.setIfInBounds_toArray, List.set_cons_zero, List.set_cons_succ]
      refine reg_take (i := 3) (v := ?_) rfl rfl (by kernel_rfl) (by kernel_rfl) (by kernel_rfl) (fun _ _ _ h => h) (by assumption) (by rfl) ?_ ?_
      rotate_left 1
      · (intro w hSw; (try dsimp only at hSw); go_simp; try with_reducible rfl)
      try simp only [List.setIfInBounds_toArray, List.set_cons_zero, List.set_cons_succ]
      refine reg_take (i := 4) (v := ?_) rfl rfl (by kernel_rfl) (by kernel_rfl) (by kernel_rfl) (fun _ _ _ h => h) (by assumption) (by rfl) ?_ ?_
      rotate_left 1
      · (intro w hSw; (try dsimp only at hSw); go_simp; try with_reducible rfl)
      try simp only [List.setIfInBounds_toArray, List.set_cons_zero, List.set_cons_succ]
      refine reg_take (i := 5) (v := ?_) rfl rfl (by kernel_rfl) (by kernel_rfl) (by kernel_rfl) (fun _ _ _ h => h) (by assumption) (by rfl) ?_ ?_
      rotate_left 1
      · (intro w hSw; (try dsimp only at hSw); go_simp; try with_reducible rfl)
      try simp only [List.setIfInBounds_toArray, List.set_cons_zero, List.set_cons_succ]
      refine reg_take (i := 6) (v := ?_) rfl rfl (by kernel_rfl) (by kernel_rfl) (by kernel_rfl) (fun _ _ _ h => h) (by assumption) (by rfl) ?_ ?_
      rotate_left 1
      · (intro w hSw; (try dsimp only at hSw); go_simp; try with_reducible rfl)
      try simp only [List.setIfInBounds_toArray, List.set_cons_zero, List.set_cons_succ]
      have hlk := hlook W4.drew hbm
      refine reg_step (i := 7) (by kernel_rfl) rfl (by rfl) (fun KC hKC => ?_)
      go_simp
      have s1 := hHeld
      clear hHeld hlk hlook
      refine hKC.out _ _ ?_ (fun hHeld => ?_)
      · exact s1
      clear hKC KC s1
      refine reg_take (i := 8) (v := .agg (wcells A C X)) rfl rfl (by kernel_rfl) (by kernel_rfl) (by kernel_rfl) (fun _ _ _ h => h) (by assumption) (by rfl) (fun w _ => by kernel_rfl) ?_
      try simp only [List.setIfInBounds_toArray, List.set_cons_zero, List.set_cons_succ]
      have hS2 : (fun W => W.cell? ⟨K, 0, none⟩ = some (.int .i64 A) ∧ W.cell? ⟨K, 1, none⟩ = some (.int .i64 C) ∧ W.cell? ⟨L.v, 2, none⟩ = some (.map (some L.m))) (W4.drew.alloc (.cells (wcells A C X) 62)) :=
        ⟨by rw [World.cell?_alloc_lt _ _ _ (cell_block_lt (w := W4.drew) k0)]; exact k0, by rw [World.cell?_alloc_lt _ _ _ (cell_block_lt (w := W4.drew) k1)]; exact k1, by rw [World.cell?_alloc_lt _ _ _ (cell_block_lt (w := W4.drew) hcm)]; exact hcm⟩
      refine reg_run (i := 9) (v := .slice (some ⟨W4.heap.size, 0, none⟩) 1 1) (w' := W4.drew.alloc (.cells (wcells A C X) 62)) (by kernel_rfl) rfl rfl (by rfl) (by kernel_rfl) hS2 (fun hHeld => ?_)
      try simp only [List.setIfInBounds_toArray, List.set_cons_zero, List.set_cons_succ]
      have bB : Below W4.heap.size W4 (W4.drew.alloc (.cells (wcells A C X) 62)) := ((Below.refl _ W4).trans (below_drewN (Below.refl _ _) 1)).alloc (Nat.le_refl _) _
      have hown3 := hown2.below bB
      have kb3 : blk (W4.drew.alloc (.cells (wcells A C X) 62)) K = _ := (bB.block K (lt_of_heap kb)).trans kb
      have hbw3 := hbw2.trans (bB.mono hbw2.size)
      have hb33 := hb32.trans (bB.mono hb32.size)
      have cv3 : blk (W4.drew.alloc (.cells (wcells A C X) 62)) L.v = _ := (hbw3.block L.v hlv).trans hV.cv
      obtain ⟨v', W5, hrun, hwl, hbb, hgr⟩ := wl_push hown3 hb33.size hl55 W4.heap.size A C X (heap_alloc_new _ _) 22
      have kb5 := blk_grown hgr kb3 (hown3.ne kb3 (by decide))
      have cv5 := blk_grown hgr cv3 (hown3.low (Nat.lt_of_lt_of_le hlv hsz))
      have m1 := cell_of_row W5 K 0 _ _ _ kb5
      have m2 := cell_of_row W5 K 1 _ _ _ kb5
      have m3 := cell_of_row W5 L.v 2 _ _ _ cv5
      have s5 : (fun W => W.cell? ⟨K, 0, none⟩ = some (.int .i64 A) ∧ W.cell? ⟨K, 1, none⟩ = some (.int .i64 C) ∧ W.cell? ⟨L.v, 2, none⟩ = some (.map (some L.m))) W5 := ⟨m1, m2, m3⟩
      have hb35 := hb33.trans hbb
      clear hHeld
      refine reg_step (i := 10) (by kernel_rfl) rfl (by rfl) (fun KC hKC => ?_)
      refine wp_run_append _ _ _ rfl rfl rfl hrun ?_
      go_simp
      clear m1 m2 m3 kb5 cv5 kb3 cv3 hgr hrun hown3 hown2 kb k0 k1 hcm hbm hS2 S0
      refine hKC.out _ _ ?_ (fun hHeld => ?_)
      · exact s5
      clear hKC KC
      refine reg_take (i := 11) (v := ?_) rfl rfl (by kernel_rfl) (by kernel_rfl) (by kernel_rfl) (fun _ _ _ h => h) (by assumption) (by rfl) ?_ ?_
      rotate_left 1
      · (intro w hSw; (try dsimp only at hSw); go_simp; try with_reducible rfl)
      try simp only [List.setIfInBounds_toArray, List.set_cons_zero, List.set_cons_succ]
      refine wpAnyH_done (by kernel_rfl) ?_ _
      clear s5 hHeld hbw3 hbw2 hb32 hb33 hbb bB
      have hfin : WL w3.heap.size W5 v' ((wrL st).take (j + 1)) := by rw [HSTJ.out]; exact hwl
      clear hwl HSTJ
      go_wp2_with fail
      exact ⟨⟨j + 1, by omega, by go_num, hfin, hb35⟩, by simp [intOf]; omega⟩
    · obtain rfl : j = ps.length := by omega
      rw [← HLEN.out, List.take_length] at hown
      clear hkr HST
      have hB := b3.size
      go_wp2_with fail
      go_ret
      exact ⟨_, rfl, hown.mono hB, hbw⟩
end Go.Proofs.YtfcgkjbifnhjjaaGreatDoor.St
