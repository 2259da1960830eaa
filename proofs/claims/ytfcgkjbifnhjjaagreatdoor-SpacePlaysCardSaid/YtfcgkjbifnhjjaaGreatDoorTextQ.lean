/- The contract of cloisterkeep.Text: so many bytes; nothing that was in memory is turned. For a size of at most 2^20. No condition but those written in each statement. -/
import Derived.Test.YtfcgkjbifnhjjaaGreatDoorQ52
import Derived.Laws.MakeOwn
import Derived.Laws.BytesString
import Derived.LoopTactic
import Derived.OwnWalk
namespace Go.Proofs.YtfcgkjbifnhjjaaGreatDoor.St
open Go.RowKit
set_option linter.unusedVariables false

def byteRow (xs : List Int) : Array Value := (xs.map (Value.int .u8)).toArray

theorem byteRow_size (xs : List Int) : (byteRow xs).size = xs.length := by simp [byteRow]
theorem byteRow_set (xs : List Int) (j : Nat) (v : Int) : (byteRow xs).setIfInBounds j (.int .u8 v) = byteRow (xs.set j v) := by
  simp [byteRow, List.map_set]
theorem byteRow_at (xs : List Int) (j : Nat) (h : j < xs.length) : (byteRow xs)[j]? = some (.int .u8 xs[j]) := by
  simp [byteRow, h]

theorem byte_info : (Tryz.prog.info? 5).map (fun i => (i.zero, i.size, i.bytes)) = some (some (.int .u8 0), 1, 1) := by kernel_rfl

theorem run_makeBytes (n : Nat) (hn : n ≤ 1048576) (W : World) : (Instr.makeSlice 73 (.int .i64 (n : Int)) (.int .i64 (n : Int))).run Tryz.prog W = .ok (.slice (some ⟨W.heap.size, 0, none⟩) n n) (W.alloc (.cells (byteRow (List.replicate n 0)) 5)) := by
  obtain ⟨i, h1, h2, h3, h4⟩ := info_parts byte_info
  have := run_makeSlice (P := Tryz.prog) (w := W) 73 5 i _ (by kernel_rfl) h1 h2 .i64 .i64 n n (by omega) (Int.le_refl _) (by rw [h3]; omega) (by rw [h4]; omega) (by omega)
  rw [this, h3]
  have e : madeCells (Value.int .u8 0).cells ((n : Int).toNat * 1) = byteRow (List.replicate n 0) := by
    apply Array.ext
    · simp [byteRow, size_madeCells]
    · intro j a b
      simp [byteRow, madeCells, Value.cells, Nat.mod_one]
  rw [e]
  simp

theorem fold_size (xs : List Int) (r : ByteArray) : (xs.foldl (fun r n => r.push (UInt8.ofNat n.toNat)) r).size = r.size + xs.length := by
  induction xs generalizing r with
  | nil => simp
  | cons x xs ih => rw [List.foldl_cons, ih, ByteArray.size_push, List.length_cons]; omega

theorem run_bytesText (xs : List Int) (W : World) (b : Nat) (h : blk W b = some (.cells (byteRow xs) 5 (0, 0))) :
    (convert 73 9 (.slice (some ⟨b, 0, none⟩) xs.length xs.length)).run Tryz.prog W = .ok (.string (xs.foldl (fun r n => r.push (UInt8.ofNat n.toNat)) ByteArray.empty)) W := by
  rw [run_convert_bytes_string W 73 9 5 _ _ _ (by kernel_rfl) (by kernel_rfl) (by kernel_rfl)]
  refine run_bytesToString W _ _ _ _ ?_
  have := run_loadCells_list (P := Tryz.prog) (w := W) ⟨b, 0, none⟩ (xs.map (Value.int .u8)) (by
    intro j v hj
    have hc := cell_of_row W b j _ _ _ h
    rw [show (byteRow xs)[j]? = (xs.map (Value.int .u8))[j]? by simp [byteRow]] at hc
    have e : (⟨b, 0, none⟩ : Addr).add j = ⟨b, j, none⟩ := by unfold Addr.add; split <;> simp_all
    rw [e, hc, hj])
  simpa using this

end Go.Proofs.YtfcgkjbifnhjjaaGreatDoor.St
