/- The walk of cloisterlaw7.KeyRuns. No condition but those written in each statement. -/
import Derived.Test.YtfcgkjbifnhjjaaGreatDoorQ54
import Derived.Test.YtfcgkjbifnhjjaaGreatDoorValQ
import Derived.Deep.RegionHeld3
import Derived.Deep.DrawnRows
namespace Go.Proofs.YtfcgkjbifnhjjaaGreatDoor.St
open Go.RowKit
set_option linter.unusedVariables false

theorem at3 (w : World) : Calls Tryz.prog 96 #[.int .i64 3] w fun e w' => e = .returned (.tuple #[.agg #[.int .i64 4, .int .i64 0], .bool true]) ∧ Below w.heap.size w w' := at_any 3 (by decide) w
theorem place42 (w : World) : Calls Tryz.prog 69 #[.agg #[.int .i64 4, .int .i64 2]] w fun e w' => e = .returned (.int .i64 5) ∧ Below w.heap.size w w' := by
  have h := place_any 4 2 w
  rw [show placeI 4 2 = 5 by decide] at h
  exact h
theorem place48 (w : World) : Calls Tryz.prog 69 #[.agg #[.int .i64 4, .int .i64 8]] w fun e w' => e = .returned (.int .i64 (-1)) ∧ Below w.heap.size w w' := by
  have h := place_any 4 8 w
  rw [show placeI 4 8 = -1 by decide] at h
  exact h

/-- The three keys of the run. -/
def zr (i j : Nat) : Int := ((([[4, 1], [1, 0], [4, 1], [4, 99]] : List (List Int)).getD i []).getD j 0)
theorem zr_pl : plN zr 4 = [4, 0, 4] := by decide
theorem zr_srt : srt [4, 0, 4] = [0, 4, 4] := by simp [srt, List.mergeSort, List.MergeSort.Internal.splitInTwo]
theorem zr_c : Go.Lib.compact ([0, 4, 4] : List Int) = [0, 4] := by decide
theorem zr_sorted : ksorted zr 4 = [0, 4] := by rw [ksorted, zr_pl, zr_srt, zr_c]
theorem zr_flat : flat [0, 4] = [.int .i64 1, .int .i64 0, .int .i64 4, .int .i64 1] := by rfl

abbrev KSt (w : World) (B : Nat) (W : World) : Prop := W.cell? ⟨B, 0, none⟩ = some (.int .i64 4) ∧ W.cell? ⟨B, 1, none⟩ = some (.int .i64 0) ∧ W.cell? ⟨(B + 1), 0, none⟩ = some (.int .i64 4) ∧ W.cell? ⟨(B + 1), 1, none⟩ = some (.int .i64 1) ∧ W.cell? ⟨(B + 1 + 1), 0, none⟩ = some (.int .i64 1) ∧ W.cell? ⟨(B + 1 + 1), 1, none⟩ = some (.int .i64 0) ∧ Below w.heap.size w W
theorem kst_below {w : World} {B : Nat} {W W' : World} (h : KSt w B W) (hb : Below W.heap.size W W') : KSt w B W' := by
  obtain ⟨a, b, c, d, e, f, g⟩ := h
  exact ⟨(hb.cell (cell_block_lt a)).trans a, (hb.cell (cell_block_lt b)).trans b, (hb.cell (cell_block_lt c)).trans c, (hb.cell (cell_block_lt d)).trans d, (hb.cell (cell_block_lt e)).trans e, (hb.cell (cell_block_lt f)).trans f, g.trans (hb.mono g.size)⟩
theorem kst_alloc {w : World} {B : Nat} {W : World} (h : KSt w B W) (o : Obj) : KSt w B (W.alloc o) := kst_below h ((Below.refl _ _).alloc (Nat.le_refl _) o)
theorem heap_at (W : World) (o : Obj) (n : Nat) (h : n = W.heap.size) : (W.alloc o).heap[n]? = some o := by rw [h]; exact heap_alloc_new _ _
theorem heap_past (W : World) (o1 o2 : Obj) : ((W.alloc o1).alloc o2).heap[W.heap.size]? = some o1 := by
  have h : blk ((W.alloc o1).alloc o2) W.heap.size = some o1 := by rw [blk_alloc_past _ _ _ (by simp), blk_alloc_at _ _ _ rfl]
  exact h

abbrev slA : Obj := .cells #[.int .i64 4, .int .i64 1, .int .i64 1, .int .i64 0, .int .i64 4, .int .i64 1, .int .i64 4, .int .i64 99] 57
abbrev slB : Obj := .cells #[.int .i64 1, .int .i64 0, .int .i64 4, .int .i64 1] 57

theorem sort_run (g : Nat) (W : World) (h : W.heap[g]? = some slA) : Calls Tryz.prog 64 #[.slice (some ⟨g, 0, none⟩) 4 4] W fun e w' => ∃ b c, e = .returned (.slice (some ⟨b, 0, none⟩) 2 c) ∧ w'.cell? ⟨b, 0, none⟩ = some (.int .i64 1) ∧ w'.cell? ⟨b, 1, none⟩ = some (.int .i64 0) ∧ w'.cell? ⟨b, 2, none⟩ = some (.int .i64 4) ∧ w'.cell? ⟨b, 3, none⟩ = some (.int .i64 1) ∧ Below W.heap.size W w' := by
  refine (ksort_any ⟨g, 0, none⟩ 4 4 zr W (by omega) ?_).mono ?_
  · intro i hi j hj
    have hc : ∀ k : Nat, W.cell? ⟨g, k, none⟩ = (#[Value.int .i64 4, .int .i64 1, .int .i64 1, .int .i64 0, .int .i64 4, .int .i64 1, .int .i64 4, .int .i64 99] : Array Value)[k]? := fun k => by simp [World.cell?, h]
    have : (i = 0 ∨ i = 1 ∨ i = 2 ∨ i = 3) ∧ (j = 0 ∨ j = 1) := by omega
    obtain ⟨hi, hj⟩ := this
    rcases hi with rfl | rfl | rfl | rfl <;> rcases hj with rfl | rfl <;> refine ⟨?_, by decide⟩ <;> simp [Addr.add, hc, zr]
  · rintro e w' ⟨v, rfl, ho, hb⟩
    rw [zr_sorted, zr_flat] at ho
    rcases ho.2 with ⟨_, q⟩ | ⟨b, c, cur, rfl, _⟩
    · cases q
    · have hc := ho.cells (g := b) rfl
      exact ⟨b, c, rfl, hc 0 _ rfl, hc 1 _ rfl, hc 2 _ rfl, hc 3 _ rfl, hb⟩

theorem same_run (b c g : Nat) (W : World) (h0 : W.cell? ⟨b, 0, none⟩ = some (.int .i64 1)) (h1 : W.cell? ⟨b, 1, none⟩ = some (.int .i64 0)) (h2 : W.cell? ⟨b, 2, none⟩ = some (.int .i64 4)) (h3 : W.cell? ⟨b, 3, none⟩ = some (.int .i64 1)) (h : W.heap[g]? = some slB) :
    Calls Tryz.prog 44 #[.slice (some ⟨b, 0, none⟩) 2 c, .slice (some ⟨g, 0, none⟩) 2 2] W fun e w' => e = .returned (.bool true) ∧ Below W.heap.size W w' := by
  have hc : ∀ k : Nat, W.cell? ⟨g, k, none⟩ = (#[Value.int .i64 1, .int .i64 0, .int .i64 4, .int .i64 1] : Array Value)[k]? := fun k => by simp [World.cell?, h]
  refine same_yes _ _ 2 c 2 W (by omega) ?_
  intro i hi
  have : i = 0 ∨ i = 1 := by omega
  rcases this with rfl | rfl
  · exact ⟨_, _, 1, 0, rfl, rfl, h0, h1, hc 0, hc 1⟩
  · exact ⟨_, _, 4, 1, rfl, rfl, h2, h3, hc 2, hc 3⟩

theorem heap_kept {W W' : World} {g : Nat} {o : Obj} (t : Below W.heap.size W W') (h : W.heap[g]? = some o) : W'.heap[g]? = some o := (t.block g (lt_of_heap h)).trans h
theorem cell_up {W : World} {o : Obj} {a : Addr} {v : Value} (h : W.cell? a = some v) : (W.alloc o).cell? a = some v := by
  have hb : Below W.heap.size W (W.alloc o) := (Below.refl _ _).alloc (Nat.le_refl _) _
  exact (hb.cell (cell_block_lt h)).trans h

attribute [local irreducible] Int.lt Int.le
attribute [local go_sem ↓] Go.wp_at_zero Go.wp_at_succ
end Go.Proofs.YtfcgkjbifnhjjaaGreatDoor.St
