/- The contracts of store.New and store.Look: a store of zero values, a view that has read and written nothing. No condition. -/
import Derived.Test.YtfcgkjbifnhjjaaViewB
namespace Go.Proofs.Ytfcgkjbifnhjjaa.St
open Go.RowKit
set_option linter.unusedVariables false

theorem all_any (w : World) :
    Calls Try.prog 65 #[] w fun e w' => e = .returned (.int .i64 55) ∧ w = w' := by
  have h : aheadI 13 = 55 := by decide
  go_enter Try.func65, Try.ntmps65
  go_wp2_with fail
  refine (ahead_any 13 (by decide) (by decide) _).mono ?_; rw [h]; rintro e w1 ⟨rfl, rfl⟩
  go_wp2_with fail
  go_ret
  exact ⟨rfl, rfl⟩

/-- The cells of a new store's row. -/
def zeroRow : Array Value := (Array.range 935).map (Val.zero.cells[· % 17]!)

theorem zeroRow_size : zeroRow.size = 935 := by simp [zeroRow]
theorem zeroRow_at (p : Nat) (h : p < 55) : zeroRow.extract (p * 17) (p * 17 + 17) = Val.zero.cells := by
  apply Array.ext
  · simp [zeroRow, cells_size]; omega
  · intro i h1 h2
    have h3 : i < 17 := by simpa [cells_size] using h2
    simp [zeroRow]
    have e : i % 17 = i := by omega
    rw [e, getElem!_pos Val.zero.cells i h2]

theorem run_makeRow (w : World) : (Instr.makeSlice 99 (.int .i64 55) (.int .i64 55)).run Try.prog w = .ok (.slice (some ⟨w.heap.size, 0, none⟩) 55 55) (w.alloc (.cells zeroRow 47)) := by
  kernel_rfl

theorem new_any (w : World) :
    Calls Try.prog 37 #[] w fun e w' => ∃ s l, e = .returned (.pointer (some ⟨s, 0, none⟩)) ∧ StoreAt w' s l (fun _ => Val.zero) ∧ Below w.heap.size w w' ∧ w.heap.size ≤ s ∧ w.heap.size ≤ l := by
  have hm := run_makeRow
  go_enter Try.func37, Try.ntmps37
  go_wp2_with fail
  refine (all_any _).mono ?_; rintro e w1 ⟨rfl, rfl⟩
  go_wp2_with fail
  go_ret
  have hb : Below w.heap.size w ((w.alloc (Obj.cells zeroRow 47)).alloc (Obj.cells #[Value.slice (some { block := w.heap.size, off := 0 }) 55 55] 101)) :=
    ((Below.refl _ _).alloc (Nat.le_refl _) _).alloc (by simp) _
  exact ⟨w.heap.size + 1, w.heap.size, rfl, ⟨⟨55, Nat.le_refl _, heap_alloc2_new _ _ _⟩, zeroRow, heap_alloc2_old _ _ _, by rw [zeroRow_size]; exact Nat.le_refl _, zeroRow_at⟩, hb, by omega, by omega⟩

theorem km_empty : KM #[] 0 (fun _ _ => none) := ⟨⟨fun i h => absurd h (by simp), fun i j h _ _ => absurd h (by simp)⟩, fun i h => absurd h (by simp), fun k n v h => absurd h (by simp), fun i j h _ _ => absurd h (by simp)⟩

/-- A view that has read and written nothing. -/
def VSt.fresh (base : Nat → Val) : VSt := ⟨base, fun _ _ => none, fun _ _ => none⟩

theorem look_any (s l : Nat) (base : Nat → Val) (w : World) (hS : StoreAt w s l base) :
    Calls Try.prog 60 #[.pointer (some ⟨s, 0, none⟩)] w fun e w' => ∃ L : Lay, L.s = s ∧ L.l = l ∧ e = .returned (.pointer (some ⟨L.v, 0, none⟩)) ∧ ViewAt w' L (VSt.fresh base) ∧ Below w.heap.size w w' ∧ w.heap.size ≤ L.v ∧ w.heap.size ≤ L.r ∧ w.heap.size ≤ L.m := by
  have hmm := @run_makeMap Try.prog
  go_enter Try.func60, Try.ntmps60
  go_wp2_with fail
  go_ret
  have lt := hS.lts
  generalize hW : (((w.alloc (Obj.map #[] 0)).alloc (Obj.map #[] 0)).alloc (Obj.cells #[Value.pointer (some { block := s, off := 0 }), Value.map (some w.heap.size), Value.map (some (w.heap.size + 1))] 106)) = W
  have b1 : blk W w.heap.size = some (.map #[] 0) := by
    rw [← hW, blk_alloc_past _ _ _ (by simp; omega), blk_alloc_past _ _ _ (by simp), blk_alloc_at _ _ _ rfl]
  have b2 : blk W (w.heap.size + 1) = some (.map #[] 0) := by
    rw [← hW, blk_alloc_past _ _ _ (by simp), blk_alloc_at _ _ _ (by simp)]
  have b3 : blk W (w.heap.size + 1 + 1) = some (Obj.cells #[Value.pointer (some { block := s, off := 0 }), Value.map (some w.heap.size), Value.map (some (w.heap.size + 1))] 106) := by
    rw [← hW, blk_alloc_at _ _ _ (by simp)]
  have hb : Below w.heap.size w W := by
    rw [← hW]; exact (((Below.refl _ _).alloc (Nat.le_refl _) _).alloc (by simp) _).alloc (by simp; omega) _
  exact ⟨⟨w.heap.size + 1 + 1, s, l, w.heap.size, w.heap.size + 1⟩, rfl, rfl, rfl, ⟨b3, hS.keep (Turn.of_below hb (fun _ => False)) (fun q => q) (fun q => q), ⟨_, _, b1, km_empty⟩, ⟨_, _, b2, km_empty⟩, by simp⟩, hb, by simp; omega, by simp, by simp⟩

end Go.Proofs.Ytfcgkjbifnhjjaa.St
