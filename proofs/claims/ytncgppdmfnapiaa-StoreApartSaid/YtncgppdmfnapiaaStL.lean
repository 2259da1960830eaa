/- What the laws of the store call besides: num, Twin. No condition but those written in each statement. -/
import Derived.Test.YtncgppdmfnapiaaRefZ
import Derived.Test.YtncgppdmfnapiaaSameW
import Derived.Test.YtncgppdmfnapiaaKeySa
import Derived.Test.YtncgppdmfnapiaaKeyWi
import Derived.Test.YtncgppdmfnapiaaPutS
import Derived.Lib.LazyBuf
namespace Go.Proofs.Ytncgppdmfnapiaa.St
open Go.RowKit
set_option linter.unusedVariables false

attribute [local go_sem] blk_alloc_at blk_alloc_past blk_drew blk_drewN blk_setB_same blk_setB_other blk_setRow_other setRow_alloc_at setRow_alloc_past setRow_drewN setRow_drew setB_size setB_cell setB_frozen setB_alloc_past setB_drewN setB_drew run_loadV loadOr_cells run_storeV storeOr_cells cells_size ones_cells cells_0 cells_1 cells_2 cells_16
attribute [local go_sem ↓] execOp_loadV execOp_storeV
attribute [local irreducible] Int.lt Int.le
/-- A value of a number. -/
def numV (n : Int) : Val := Val.zero.set 0 n
set_option maxRecDepth 100000 in
set_option maxHeartbeats 1000000 in
theorem num_any (n : Int) (w : World) : Calls Try.prog 26 #[.int .i64 n] w fun e w' => e = .returned (.agg (numV n).cells) ∧ Below w.heap.size w w' := by
  have hz := zero_val
  go_enter Try.func26, Try.ntmps26
  go_upto_region 2 with fail
  obtain ⟨W0, hW0⟩ : ∃ W0, (w.alloc (Obj.cells Val.zero.cells 44)).alloc (Obj.cells Val.zero.cells 44) = W0 := ⟨_, rfl⟩
  have b0 : Below w.heap.size w W0 := by rw [← hW0]; exact ((Below.refl _ _).alloc (Nat.le_refl _) _).alloc (by simp) _
  have r0 : blk W0 w.heap.size = some (.cells Val.zero.cells 44 (0, 0)) := by rw [← hW0]; exact heap_alloc2_old _ _ _
  have r1 : blk W0 (w.heap.size + 1) = some (.cells Val.zero.cells 44 (0, 0)) := by rw [← hW0]; exact heap_alloc2_new _ _ _
  rw [hW0]
  clear hW0
  have f1 := frozen_blk r1 0
  have c1 := cell_of_row W0 (w.heap.size + 1) 0 _ _ _ r1
  rw [cells_0] at c1
  have r2 : blk (W0.setCell ⟨w.heap.size + 1, 0, none⟩ (.int .i64 n)) (w.heap.size + 1) = some (.cells (numV n).cells 44 (0, 0)) := by
    have := blk_setCell_same r1 0 (.int .i64 n)
    rwa [cells_set0] at this
  have r3 : blk (W0.setCell ⟨w.heap.size + 1, 0, none⟩ (.int .i64 n)) w.heap.size = some (.cells Val.zero.cells 44 (0, 0)) := by
    rw [blk_setCell_other _ _ _ _ (show w.heap.size ≠ w.heap.size + 1 by omega)]; exact r0
  have b1 := b0.setCell (p := ⟨w.heap.size + 1, 0, none⟩) (show w.heap.size ≤ w.heap.size + 1 by omega) (.int .i64 n)
  clear r0 r1 b0
  go_upto_region 3 with fail
  generalize W0.setCell ⟨w.heap.size + 1, 0, none⟩ (.int .i64 n) = W1 at *
  clear f1 c1
  go_wp2_with fail
  exact bodyPost_val (b := w.heap.size) rfl rfl rfl (setRow_heap _ _ _ _ _ _ r3) (cells_size _) ⟨rfl, below_setRow b1 (Nat.le_refl _) _⟩
theorem info_val : (Try.prog.info? 44).map (fun i => (i.zero, i.size, i.bytes)) = some (some (.agg Val.zero.cells), 17, 144) := by kernel_rfl
theorem cell_chunk {c : Array Value} {base : Nat → Val} (hc : 935 ≤ c.size) (hx : ∀ p, p < 55 → c.extract (p * 17) (p * 17 + 17) = (base p).cells) (j : Nat) (hj : j < 935) : c[j]? = (base (j / 17)).cells[j % 17]? := by
  have h := hx (j / 17) (by omega)
  rw [← h, Array.getElem?_extract_of_lt (by omega), ← Array.getElem?_eq_getElem]
  congr 1
  omega
set_option maxRecDepth 100000 in
set_option maxHeartbeats 1000000 in
theorem clone_any (l cap : Nat) (c : Array Value) (base : Nat → Val) (hcap : 55 ≤ cap) (hc : 935 ≤ c.size) (hx : ∀ p, p < 55 → c.extract (p * 17) (p * 17 + 17) = (base p).cells) (w : World) (hl : blk w l = some (.cells c 44 (0, 0))) :
    Calls Try.prog 56 #[.slice (some ⟨l, 0, none⟩) 55 cap] w fun e w' => ∃ g cap' c', e = .returned (.slice (some ⟨g, 0, none⟩) 55 cap') ∧ 55 ≤ cap' ∧ w.heap.size ≤ g ∧ blk w' g = some (.cells c' 44 (0, 0)) ∧ 935 ≤ c'.size ∧ (∀ p, p < 55 → c'.extract (p * 17) (p * 17 + 17) = (base p).cells) ∧ Below w.heap.size w w' := by
  obtain ⟨i1, hi, hz0, hz1, hz2⟩ := info_parts info_val
  have hl1 : blk (w.alloc (.cells #[] 44)) l = some (.cells c 44 (0, 0)) := (blk_alloc_past _ _ _ (lt_of_heap hl)).trans hl
  have hown : (w.alloc (.cells #[] 44)).ownsRow w.heap.size 44 17 (.slice (some ⟨w.heap.size, 0, none⟩) 0 0) 0 [] := World.ownsRow_made (base := w.heap.size) (e := 44) (size := 17) w #[] 0 (Nat.le_refl _) (by unfold maxLen; omega) rfl
  have hbA : Below w.heap.size w (w.alloc (.cells #[] 44)) := (Below.refl _ _).alloc (Nat.le_refl _) _
  have hcell := cell_chunk hc hx
  obtain ⟨v', W', hrun, h2, h3, h5⟩ := run_append_own (P := Try.prog) (w := w.alloc (.cells #[] 44)) w.heap.size 76 76 44 i1 (.agg Val.zero.cells) 17 144 Try.underlying76 hi hz0 hz1 hz2 rfl (by decide) (.slice (some ⟨w.heap.size, 0, none⟩) 0 0) 0 [] hown ⟨l, 0, none⟩ 55 cap (c.toList.take 935)
    (by rw [List.length_take]; simp; omega)
    (fun j u hj => by
      rw [add_at_g, cell_of_row _ _ j _ _ _ hl1]
      rw [List.getElem?_take] at hj
      split at hj
      · simpa using hj
      · cases hj)
    (fun u hu => by
      obtain ⟨j, hj, rfl⟩ := List.getElem_of_mem hu
      rw [List.length_take] at hj
      have h1 := hcell j (by omega)
      have h0 : (c.toList.take 935)[j] = c[j]'(by simp at hj; omega) := by simp
      rw [h0]
      have h2 : c[j]? = some (c[j]'(by simp at hj; omega)) := Array.getElem?_eq_getElem _
      rw [h2] at h1
      have h3 := cells_one (base (j / 17))
      rw [Array.all_eq_true'] at h3
      exact h3 _ (Array.mem_of_getElem? h1.symm))
    (by unfold maxLen; omega) (by omega) hbA.size
  have hres : ∃ g cap' c', v' = .slice (some ⟨g, 0, none⟩) 55 cap' ∧ 55 ≤ cap' ∧ w.heap.size ≤ g ∧ blk W' g = some (.cells c' 44 (0, 0)) ∧ 935 ≤ c'.size ∧ (∀ p, p < 55 → c'.extract (p * 17) (p * 17 + 17) = (base p).cells) := by
    rcases h2.2 with ⟨_, q⟩ | ⟨g, cap', cur, e1, e2, e3, e4, e5, e6, e7⟩
    · omega
    · refine ⟨g, cap', cur, e1, e4, e2, e3, by omega, fun p hp => ?_⟩
      rw [← hx p hp]
      apply Array.toList_inj.1
      rw [Array.toList_extract, Array.toList_extract, List.extract_eq_take_drop, List.extract_eq_take_drop]
      have e8 : cur.toList.take 935 = c.toList.take 935 := by simpa using e7
      have e9 := congrArg (fun s => (s.drop (p * 17)).take 17) e8
      simp only [List.drop_take, List.take_take] at e9
      rw [show min 17 (935 - p * 17) = 17 by omega] at e9
      rw [show p * 17 + 17 - p * 17 = 17 by omega]
      exact e9
  obtain ⟨g, cap', c', rfl, g1, g2, g3, g4, g5⟩ := hres
  have hb : Below w.heap.size w W' := hbA.grown h3 hbA.size (fun j hj => (World.ownsRow.lt hown j hj).1)
  have H5 := Lib.hid g5
  clear hcell hx h2 h3 h5 hown g5
  have hnl : ∀ W, (binOp .eql 76 (.slice (some ⟨l, 0, none⟩) 55 cap) (.slice none 0 0)).run Try.prog W = .ok (.bool false) W := fun W => Lib.run_eql_slice_nil W _ _ _ _ _ _ _ Try.underlying76
  go_enter Try.func56, Try.ntmps56
  go_wp2_with (first | (at_builtin; refine wpList_run_append rfl _ _ _ rfl rfl rfl hrun ?_) | fail)
  go_ret
  exact ⟨g, cap', c', rfl, g1, g2, g3, g4, H5.out, hb⟩
set_option maxRecDepth 100000 in
theorem stwin_any (s l : Nat) (base : Nat → Val) (w : World) (hS : StoreAt w s l base) :
    Calls Try.prog 34 #[.pointer (some ⟨s, 0, none⟩)] w fun e w' => ∃ s' l', e = .returned (.pointer (some ⟨s', 0, none⟩)) ∧ StoreAt w' s' l' base ∧ s' ≠ l' ∧ w.heap.size ≤ s' ∧ w.heap.size ≤ l' ∧ Below w.heap.size w w' := by
  obtain ⟨cap, hcap, hcs⟩ := hS.cs
  obtain ⟨c, hcl, hc, hx⟩ := hS.cl
  have c0 := cell_of_row w s 0 _ _ _ hcs
  simp only [List.getElem?_toArray, List.getElem?_cons_zero] at c0
  have hcl2 := clone_any l cap c base hcap hc hx w hcl
  have HC := Lib.hid hcl2
  clear hcl2 hx hcl hS
  go_enter Try.func34, Try.ntmps34
  go_wp2_with fail
  refine HC.out.mono ?_; rintro e w1 ⟨g, cap', c', rfl, g1, g2, g3, g4, g5, b1⟩
  have hlg := lt_of_heap g3
  have HS : StoreAt (w1.alloc (.cells #[.slice (some ⟨g, 0, none⟩) 55 cap'] 78)) w1.heap.size g base := ⟨⟨cap', g1, heap_alloc_new _ _⟩, c', (blk_alloc_past _ _ _ hlg).trans g3, g4, g5⟩
  have HSh := Lib.hid HS
  have b2 := b1.alloc b1.size (.cells #[.slice (some ⟨g, 0, none⟩) 55 cap'] 78)
  have hb := b1.size
  clear HC g5 HS c0
  go_wp2_with fail
  go_ret
  exact ⟨_, g, rfl, HSh.out, by omega, by omega, g2, b2⟩
end Go.Proofs.Ytncgppdmfnapiaa.St
