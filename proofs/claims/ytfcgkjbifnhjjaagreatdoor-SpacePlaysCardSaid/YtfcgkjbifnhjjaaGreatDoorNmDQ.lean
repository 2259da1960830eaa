/- The contracts of name.Pack and of the document's own Pack: the same sixteen bytes. For a text of at most 2^20 bytes. No condition but those written in each statement. -/
import Derived.Test.YtfcgkjbifnhjjaaGreatDoorQ64
import Derived.Lib.LazyBuf
import Derived.Deep.OwnRows
import Derived.Deep.Cut
import Derived.Laws.BytesString
namespace Go.Proofs.YtfcgkjbifnhjjaaGreatDoor.St
open Go.RowKit
set_option linter.unusedVariables false

theorem u8_info : (Tryz.prog.info? 5).map (fun i => (i.zero, i.size, i.bytes)) = some (some (.int .u8 0), 1, 1) := by kernel_rfl

/-- 'copy(dst, s)' of a text: as many bytes as fit. -/
theorem run_copy_text {P : Program} (w : World) (dT sT ty elem : TypeId) (b o dLen dCap : Nat) (t : ByteArray)
    (hu : P.underlying dT = some (.slice elem)) (hz : ∀ w, (Go.sizeOf elem).run P w = .ok 1 w)
    (hc : ∀ j, j < dLen → (w.cell? ⟨b, o + j, none⟩).isSome = true) (hf : ∀ j, j < dLen → w.frozen? ⟨b, o + j, none⟩ = false) :
    (Builtin.copy_ #[dT, sT] ty #[.slice (some ⟨b, o, none⟩) dLen dCap, .string t]).run P w = .ok (goInt (Nat.min t.size dLen)) (w.setCells b o ((t.data.toList.map fun x => Value.int .u8 (x.toNat : Int)).take dLen)) := by
  have hl : ((t.data.toList.map fun x => Value.int .u8 (x.toNat : Int)).take dLen).length ≤ dLen := by rw [List.length_take]; omega
  have hst := run_storeCells_cells (P := P) b o ((t.data.toList.map fun x => Value.int .u8 (x.toNat : Int)).take dLen) 0 w (by intro j hj; simpa using hc j (by omega)) (by intro j hj; first | (simp; done) | simpa using hf j (by omega)) (by
    intro v hv
    obtain ⟨x, _, rfl⟩ := List.mem_map.1 (List.mem_of_mem_take hv)
    rfl)
  have ht : List.take (Nat.min t.size dLen) (List.map (fun x : UInt8 => Value.int .u8 (x.toNat : Int)) t.data.toList) = (t.data.toList.map fun x => Value.int .u8 (x.toNat : Int)).take dLen := by
    have hs : (List.map (fun x : UInt8 => Value.int .u8 (x.toNat : Int)) t.data.toList).length = t.size := by rw [List.length_map, size_list]
    by_cases h : t.size ≤ dLen
    · rw [show Nat.min t.size dLen = t.size from Nat.min_eq_left h, List.take_of_length_le (by omega), List.take_of_length_le (by omega)]
    · rw [show Nat.min t.size dLen = dLen from Nat.min_eq_right (by omega)]
  simp [Builtin.copy_, run_underlying hu, Builtin.lenOf, Builtin.firstCells, hz, -List.map_take]
  rw [ht, hst]
  rfl

theorem run_text_of {P : Program} (w : World) (src dst e : TypeId) (b n c : Nat) (f : Nat → Value) (ns : List Int) (hs : P.underlying src = some (.slice e)) (he : P.underlying e = some (.int .u8)) (hd : P.underlying dst = some .string)
    (h : w.rowIs b e n f) (hn : ns.length = n) (hf : ∀ i (hi : i < ns.length), f i = .int .u8 ns[i]) :
    (convert src dst (.slice (some ⟨b, 0, none⟩) n c)).run P w = .ok (.string (ns.foldl (fun r n => r.push (UInt8.ofNat n.toNat)) ByteArray.empty)) w := by
  rw [run_convert_bytes_string w src dst e _ _ _ hs he hd]
  refine run_bytesToString w _ _ _ _ ?_
  have := run_loadCells_list (P := P) (w := w) ⟨b, 0, none⟩ (ns.map (Value.int .u8)) (by
    intro j v hj
    have hj2 : j < ns.length := by
      have := (List.getElem?_eq_some_iff.1 hj).1
      simpa using this
    have e : (⟨b, 0, none⟩ : Addr).add j = ⟨b, j, none⟩ := by unfold Addr.add; split <;> simp_all
    rw [e, h.cell (by omega), hf j hj2]
    rw [List.getElem?_map, List.getElem?_eq_getElem hj2] at hj
    simpa using hj)
  rw [List.length_map, hn] at this
  exact this
theorem fold_bytes (ns : List Int) (r : ByteArray) : ns.foldl (fun r n => r.push (UInt8.ofNat n.toNat)) r = ⟨(r.data.toList ++ ns.map fun n => UInt8.ofNat n.toNat).toArray⟩ := by
  induction ns generalizing r with
  | nil => apply ByteArray.ext; simp
  | cons n ns ih =>
    rw [List.foldl_cons, ih]
    apply ByteArray.ext
    show (((r.push _).data.toList ++ _).toArray) = _
    rw [ByteArray.data_push]
    simp

/-- The sixteen bytes of an entry. -/
def pkI (l : List UInt8) (n : Int) (j : Nat) : Int := if j < 14 then ((l.getD j 0).toNat : Int) else if j = 14 then n % 256 else n / 256 % 256
def packL (l : List UInt8) (n : Int) : List UInt8 := (List.range 16).map fun j => UInt8.ofNat (pkI l n j).toNat
def packI (l : List UInt8) (n : Int) : List Int := (List.range 16).map (pkI l n)
theorem pack_fold (l : List UInt8) (n : Int) : (packI l n).foldl (fun r n => r.push (UInt8.ofNat n.toNat)) ByteArray.empty = bs (packL l n) := by
  rw [fold_bytes]
  unfold bs packI packL
  apply ByteArray.ext
  simp

theorem copied_at (l : List UInt8) (j : Nat) : (if 0 ≤ j ∧ j < 0 + (List.take 14 (List.map (fun x : UInt8 => Value.int IntKind.u8 (x.toNat : Int)) l)).length then (List.take 14 (List.map (fun x : UInt8 => Value.int IntKind.u8 (x.toNat : Int)) l))[j - 0]?.getD default else Value.int IntKind.u8 0) = Value.int .u8 (if j < 14 then ((l.getD j 0).toNat : Int) else 0) := by
  simp only [List.length_take, List.length_map, Nat.zero_add, Nat.sub_zero, Nat.zero_le, true_and]
  by_cases h : j < 14
  · by_cases h2 : j < l.length
    · rw [if_pos (by omega), if_pos h, List.getElem?_take_of_lt h]
      simp [List.getD, List.getElem?_eq_getElem h2]
    · rw [if_neg (by omega), if_pos h]
      simp [List.getD, List.getElem?_eq_none (show l.length ≤ j by omega)]
  · rw [if_neg (by omega), if_neg h]

theorem packI_len (l : List UInt8) (n : Int) : (packI l n).length = 16 := by unfold packI; simp
theorem packed_at (l : List UInt8) (n : Int) (j : Nat) (h : j < (packI l n).length) : (if j = 15 then Value.int .u8 (n / 256 % 256) else if j = 14 then Value.int .u8 (n % 256) else Value.int .u8 (if j < 14 then ((l.getD j 0).toNat : Int) else 0)) = Value.int .u8 (packI l n)[j] := by
  have h16 := h
  have e : (packI l n)[j]'h = pkI l n j := by
    have h16 : j < 16 := by rw [← packI_len l n]; exact h
    have q : (packI l n)[j]? = some (pkI l n j) := by unfold packI; simp [h16]
    exact Option.some.inj ((List.getElem?_eq_getElem h).symm.trans q)
  have h16 : j < 16 := by rw [← packI_len l n]; exact h
  rw [e]
  unfold pkI
  by_cases h1 : j = 15
  · subst h1; rfl
  · by_cases h2 : j = 14
    · subst h2; rfl
    · rw [if_neg h1, if_neg h2, if_pos (by omega), if_pos (by omega)]

attribute [local irreducible] Int.lt Int.le
set_option maxRecDepth 100000 in
theorem pack_any (s : ByteArray) (n : Int) (w : World) (hs : s.size ≤ 1048576) :
    Calls Tryz.prog 127 #[.string s, .int .i64 n] w fun e w' => e = .returned (.string (bs (packL s.data.toList n))) ∧ Below w.heap.size w w' := by
  generalize hR : bs (packL s.data.toList n) = R
  have HR := Lib.hid hR
  clear hR
  have hmk : ∀ w : World, (Instr.makeSlice 73 (.int .i64 16) (.int .i64 16)).run Tryz.prog w = .ok (.slice (some ⟨w.heap.size, 0, none⟩) 16 16) (w.alloc (.cells (madeCells #[.int .u8 0] 16) 5)) := run_make_row' (P := Tryz.prog) 73 5 (.int .u8 0) 1 Tryz.underlying73 u8_info rfl .i64 .i64 16 (by decide) (by decide)
  go_enter Tryz.func127, Tryz.ntmps127
  go_upto_region 2 with fail
  have r1 := World.rowIs_made w (.int .u8 0) 16 5
  have b1 : Below w.heap.size w (w.alloc (.cells (madeCells #[.int .u8 0] 16) 5)) := (Below.refl _ _).alloc (Nat.le_refl _) _
  generalize w.alloc (.cells (madeCells #[.int .u8 0] 16) 5) = W1 at *
  obtain ⟨G, hG⟩ : ∃ G, G = w.heap.size := ⟨_, rfl⟩
  rw [← hG] at r1 b1
  simp only [← hG]
  have HG := Lib.hid hG
  clear hG hmk
  have hcp := run_copy_text (P := Tryz.prog) W1 73 9 3 5 G 0 14 16 s Tryz.underlying73 (by intro w; kernel_rfl) (fun j hj => by rw [Nat.zero_add, r1.cell (by omega)]; rfl) (fun j hj => by rw [Nat.zero_add]; exact r1.frozen (by omega))
  have r2 := rowIs_setCells ((s.data.toList.map fun x => Value.int .u8 (x.toNat : Int)).take 14) 0 W1 _ r1
  have b2 := below_setCells (Nat.le_refl _) ((s.data.toList.map fun x => Value.int .u8 (x.toNat : Int)).take 14) 0 W1 b1
  generalize W1.setCells G 0 ((s.data.toList.map fun x => Value.int .u8 (x.toNat : Int)).take 14) = W2 at *
  go_upto_region 3 with fail
  have r3 : W2.rowIs G 5 16 fun j => .int .u8 (if j < 14 then ((s.data.toList.getD j 0).toNat : Int) else 0) := r2.congr fun j hj => copied_at s.data.toList j
  have c14 := r3.cell (i := 14) (by omega)
  have c15 := r3.cell (i := 15) (by omega)
  have f14 := r3.frozen 14
  have f15 := r3.frozen 15
  simp at c14 c15
  clear r1 r2 hcp b1
  go_upto_region 4 with fail
  have r4 := (r3.set 14 (.int .u8 (n % 256))).set 15 (.int .u8 (n / 256 % 256))
  have b4 := (b2.setCell (p := ⟨G, 14, none⟩) (Nat.le_refl _) (.int .u8 (n % 256))).setCell (p := ⟨G, 15, none⟩) (Nat.le_refl _) (.int .u8 (n / 256 % 256))
  clear r3 c14 c15 f14 f15 b2
  generalize (W2.setCell ⟨G, 14, none⟩ (.int .u8 (n % 256))).setCell ⟨G, 15, none⟩ (.int .u8 (n / 256 % 256)) = W4 at *
  have hcv := run_text_of W4 73 9 5 G 16 16 _ (packI s.data.toList n) Tryz.underlying73 Tryz.underlying5 Tryz.underlying9 r4 (packI_len _ _) (fun i hi => packed_at s.data.toList n i hi)
  rw [pack_fold, HR.out] at hcv
  have b5 := b4
  rw [HG.out] at b5
  clear r4 b4
  go_wp2_with fail
  go_ret
  exact ⟨rfl, b5⟩

end Go.Proofs.YtfcgkjbifnhjjaaGreatDoor.St
