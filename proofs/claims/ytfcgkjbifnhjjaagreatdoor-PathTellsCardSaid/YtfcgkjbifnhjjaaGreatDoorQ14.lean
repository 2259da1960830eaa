/- The contracts of name.Pack and of the document's own Pack: the same sixteen bytes. For a text of at most 2^20 bytes. The contracts of name.Unpack and of the document's own Unpack. For a text of at most 2^20 bytes, where bytealg's variable holds a number. A directory's text as its entries: what a write of one entry leaves; plain lists. No condition but those written in each statement. -/
import Derived.Test.YtfcgkjbifnhjjaaGreatDoorQ13
import Derived.Lib.LazyBuf
import Derived.Deep.OwnRows
import Derived.Deep.Cut
import Derived.Laws.BytesString
namespace Go.Proofs.YtfcgkjbifnhjjaaGreatDoor.St
open Go.RowKit
set_option linter.unusedVariables false

theorem u8_info : (Tryz.prog.info? 5).map (fun i => (i.zero, i.size, i.bytes)) = some (some (.int .u8 0), 1, 1) := by kernel_rfl

/-- 'copy(dst, s)' of a text: as many bytes as fit. -/
theorem run_copy_text {P : Program} (w : World) (dT sT ty elem : TypeId) (b o dLen dCap : Nat) (t : ByteArray)
    (hu : P.underlying dT = some (.slice elem)) (hz : ∀ w, (Go.sizeOf elem).run P w = .ok 1 w)
    (hc : ∀ j, j < dLen → (w.cell? ⟨b, o + j, none⟩).isSome = true) (hf : ∀ j, j < dLen → w.frozen? ⟨b, o + j, none⟩ = false) :
    (Builtin.copy_ #[dT, sT] ty #[.slice (some ⟨b, o, none⟩) dLen dCap, .string t]).run P w = .ok (goInt (Nat.min t.size dLen)) (w.setCells b o ((t.data.toList.map fun x => Value.int .u8 (x.toNat : Int)).take dLen)) := by
  have hl : ((t.data.toList.map fun x => Value.int .u8 (x.toNat : Int)).take dLen).length ≤ dLen := by rw [List.length_take]; omega
  have hst := run_storeCells_cells (P := P) b o ((t.data.toList.map fun x => Value.int .u8 (x.toNat : Int)).take dLen) 0 w (by intro j hj; simpa using hc j (by omega)) (by intro j hj; first | (simp; done) | simpa using hf j (by omega)) (by
    intro v hv
    obtain ⟨x, _, rfl⟩ := List.mem_map.1 (List.mem_of_mem_take hv)
    rfl)
  have ht : List.take (Nat.min t.size dLen) (List.map (fun x : UInt8 => Value.int .u8 (x.toNat : Int)) t.data.toList) = (t.data.toList.map fun x => Value.int .u8 (x.toNat : Int)).take dLen := by
    have hs : (List.map (fun x : UInt8 => Value.int .u8 (x.toNat : Int)) t.data.toList).length = t.size := by rw [List.length_map, size_list]
    by_cases h : t.size ≤ dLen
    · rw [show Nat.min t.size dLen = t.size from Nat.min_eq_left h, List.take_of_length_le (by omega), List.take_of_length_le (by omega)]
    · rw [show Nat.min t.size dLen = dLen from Nat.min_eq_right (by omega)]
  simp [Builtin.copy_, run_underlying hu, Builtin.lenOf, Builtin.firstCells, hz, -List.map_take]
  rw [ht, hst]
  rfl

theorem run_text_of {P : Program} (w : World) (src dst e : TypeId) (b n c : Nat) (f : Nat → Value) (ns : List Int) (hs : P.underlying src = some (.slice e)) (he : P.underlying e = some (.int .u8)) (hd : P.underlying dst = some .string)
    (h : w.rowIs b e n f) (hn : ns.length = n) (hf : ∀ i (hi : i < ns.length), f i = .int .u8 ns[i]) :
    (convert src dst (.slice (some ⟨b, 0, none⟩) n c)).run P w = .ok (.string (ns.foldl (fun r n => r.push (UInt8.ofNat n.toNat)) ByteArray.empty)) w := by
  rw [run_convert_bytes_string w src dst e _ _ _ hs he hd]
  refine run_bytesToString w _ _ _ _ ?_
  have := run_loadCells_list (P := P) (w := w) ⟨b, 0, none⟩ (ns.map (Value.int .u8)) (by
    intro j v hj
    have hj2 : j < ns.length := by
      have := (List.getElem?_eq_some_iff.1 hj).1
      simpa using this
    have e : (⟨b, 0, none⟩ : Addr).add j = ⟨b, j, none⟩ := by unfold Addr.add; split <;> simp_all
    rw [e, h.cell (by omega), hf j hj2]
    rw [List.getElem?_map, List.getElem?_eq_getElem hj2] at hj
    simpa using hj)
  rw [List.length_map, hn] at this
  exact this
theorem fold_bytes (ns : List Int) (r : ByteArray) : ns.foldl (fun r n => r.push (UInt8.ofNat n.toNat)) r = ⟨(r.data.toList ++ ns.map fun n => UInt8.ofNat n.toNat).toArray⟩ := by
  induction ns generalizing r with
  | nil => apply ByteArray.ext; simp
  | cons n ns ih =>
    rw [List.foldl_cons, ih]
    apply ByteArray.ext
    show (((r.push _).data.toList ++ _).toArray) = _
    rw [ByteArray.data_push]
    simp

/-- The sixteen bytes of an entry. -/
def pkI (l : List UInt8) (n : Int) (j : Nat) : Int := if j < 14 then ((l.getD j 0).toNat : Int) else if j = 14 then n % 256 else n / 256 % 256
def packL (l : List UInt8) (n : Int) : List UInt8 := (List.range 16).map fun j => UInt8.ofNat (pkI l n j).toNat
def packI (l : List UInt8) (n : Int) : List Int := (List.range 16).map (pkI l n)
theorem pack_fold (l : List UInt8) (n : Int) : (packI l n).foldl (fun r n => r.push (UInt8.ofNat n.toNat)) ByteArray.empty = bs (packL l n) := by
  rw [fold_bytes]
  unfold bs packI packL
  apply ByteArray.ext
  simp

theorem copied_at (l : List UInt8) (j : Nat) : (if 0 ≤ j ∧ j < 0 + (List.take 14 (List.map (fun x : UInt8 => Value.int IntKind.u8 (x.toNat : Int)) l)).length then (List.take 14 (List.map (fun x : UInt8 => Value.int IntKind.u8 (x.toNat : Int)) l))[j - 0]?.getD default else Value.int IntKind.u8 0) = Value.int .u8 (if j < 14 then ((l.getD j 0).toNat : Int) else 0) := by
  simp only [List.length_take, List.length_map, Nat.zero_add, Nat.sub_zero, Nat.zero_le, true_and]
  by_cases h : j < 14
  · by_cases h2 : j < l.length
    · rw [if_pos (by omega), if_pos h, List.getElem?_take_of_lt h]
      simp [List.getD, List.getElem?_eq_getElem h2]
    · rw [if_neg (by omega), if_pos h]
      simp [List.getD, List.getElem?_eq_none (show l.length ≤ j by omega)]
  · rw [if_neg (by omega), if_neg h]

theorem packI_len (l : List UInt8) (n : Int) : (packI l n).length = 16 := by unfold packI; simp
theorem packed_at (l : List UInt8) (n : Int) (j : Nat) (h : j < (packI l n).length) : (if j = 15 then Value.int .u8 (n / 256 % 256) else if j = 14 then Value.int .u8 (n % 256) else Value.int .u8 (if j < 14 then ((l.getD j 0).toNat : Int) else 0)) = Value.int .u8 (packI l n)[j] := by
  have h16 := h
  have e : (packI l n)[j]'h = pkI l n j := by
    have h16 : j < 16 := by rw [← packI_len l n]; exact h
    have q : (packI l n)[j]? = some (pkI l n j) := by unfold packI; simp [h16]
    exact Option.some.inj ((List.getElem?_eq_getElem h).symm.trans q)
  have h16 : j < 16 := by rw [← packI_len l n]; exact h
  rw [e]
  unfold pkI
  by_cases h1 : j = 15
  · subst h1; rfl
  · by_cases h2 : j = 14
    · subst h2; rfl
    · rw [if_neg h1, if_neg h2, if_pos (by omega), if_pos (by omega)]

attribute [local irreducible] Int.lt Int.le
set_option maxRecDepth 100000 in
theorem pack_any (s : ByteArray) (n : Int) (w : World) (hs : s.size ≤ 1048576) :
    Calls Tryz.prog 127 #[.string s, .int .i64 n] w fun e w' => e = .returned (.string (bs (packL s.data.toList n))) ∧ Below w.heap.size w w' := by
  generalize hR : bs (packL s.data.toList n) = R
  have HR := Lib.hid hR
  clear hR
  have hmk : ∀ w : World, (Instr.makeSlice 73 (.int .i64 16) (.int .i64 16)).run Tryz.prog w = .ok (.slice (some ⟨w.heap.size, 0, none⟩) 16 16) (w.alloc (.cells (madeCells #[.int .u8 0] 16) 5)) := run_make_row' (P := Tryz.prog) 73 5 (.int .u8 0) 1 Tryz.underlying73 u8_info rfl .i64 .i64 16 (by decide) (by decide)
  go_enter Tryz.func127, Tryz.ntmps127
  go_upto_region 2 with fail
  have r1 := World.rowIs_made w (.int .u8 0) 16 5
  have b1 : Below w.heap.size w (w.alloc (.cells (madeCells #[.int .u8 0] 16) 5)) := (Below.refl _ _).alloc (Nat.le_refl _) _
  generalize w.alloc (.cells (madeCells #[.int .u8 0] 16) 5) = W1 at *
  obtain ⟨G, hG⟩ : ∃ G, G = w.heap.size := ⟨_, rfl⟩
  rw [← hG] at r1 b1
  simp only [← hG]
  have HG := Lib.hid hG
  clear hG hmk
  have hcp := run_copy_text (P := Tryz.prog) W1 73 9 3 5 G 0 14 16 s Tryz.underlying73 (by intro w; kernel_rfl) (fun j hj => by rw [Nat.zero_add, r1.cell (by omega)]; rfl) (fun j hj => by rw [Nat.zero_add]; exact r1.frozen (by omega))
  have r2 := rowIs_setCells ((s.data.toList.map fun x => Value.int .u8 (x.toNat : Int)).take 14) 0 W1 _ r1
  have b2 := below_setCells (Nat.le_refl _) ((s.data.toList.map fun x => Value.int .u8 (x.toNat : Int)).take 14) 0 W1 b1
  generalize W1.setCells G 0 ((s.data.toList.map fun x => Value.int .u8 (x.toNat : Int)).take 14) = W2 at *
  go_upto_region 3 with fail
  have r3 : W2.rowIs G 5 16 fun j => .int .u8 (if j < 14 then ((s.data.toList.getD j 0).toNat : Int) else 0) := r2.congr fun j hj => copied_at s.data.toList j
  have c14 := r3.cell (i := 14) (by omega)
  have c15 := r3.cell (i := 15) (by omega)
  have f14 := r3.frozen 14
  have f15 := r3.frozen 15
  simp at c14 c15
  clear r1 r2 hcp b1
  go_upto_region 4 with fail
  have r4 := (r3.set 14 (.int .u8 (n % 256))).set 15 (.int .u8 (n / 256 % 256))
  have b4 := (b2.setCell (p := ⟨G, 14, none⟩) (Nat.le_refl _) (.int .u8 (n % 256))).setCell (p := ⟨G, 15, none⟩) (Nat.le_refl _) (.int .u8 (n / 256 % 256))
  clear r3 c14 c15 f14 f15 b2
  generalize (W2.setCell ⟨G, 14, none⟩ (.int .u8 (n % 256))).setCell ⟨G, 15, none⟩ (.int .u8 (n / 256 % 256)) = W4 at *
  have hcv := run_text_of W4 73 9 5 G 16 16 _ (packI s.data.toList n) Tryz.underlying73 Tryz.underlying5 Tryz.underlying9 r4 (packI_len _ _) (fun i hi => packed_at s.data.toList n i hi)
  rw [pack_fold, HR.out] at hcv
  have b5 := b4
  rw [HG.out] at b5
  clear r4 b4
  go_wp2_with fail
  go_ret
  exact ⟨rfl, b5⟩

end Go.Proofs.YtfcgkjbifnhjjaaGreatDoor.St

namespace Go.Proofs.YtfcgkjbifnhjjaaGreatDoor.St
open Go.RowKit
set_option linter.unusedVariables false

theorem cut_while (c : UInt8) : ∀ l : List UInt8, (Lib.cut l [c]).1 = l.takeWhile (fun b => b != c)
  | [] => by simp [Lib.cut, Lib.index]
  | b :: t => by
    have ih := cut_while c t
    unfold Lib.cut at ih ⊢
    by_cases h : b = c
    · subst h
      have hix : Lib.index (b :: t) [b] = ((0 : Nat) : Int) := by rw [Lib.index]; simp [List.isPrefixOf]
      rw [hix]
      simp
    · have hix := index_one_cons b c t h
      have hb : (b != c) = true := by simp [h]
      rw [List.takeWhile_cons, hb, if_pos rfl, ← ih]
      by_cases hm : Lib.index t [c] = -1
      · rw [hm] at ih
        rw [hix, hm]
        simp
      · have hge := Lib.index_ge t [c]
        obtain ⟨j, hj⟩ : ∃ j : Nat, Lib.index t [c] = j := ⟨(Lib.index t [c]).toNat, by omega⟩
        have n1 : (((j : Nat) : Int) == -1) = false := beq_eq_false_iff_ne.2 (by omega)
        have hix' : Lib.index (b :: t) [c] = (j : Int) + 1 := by rw [hix, hj, n1]; rfl
        rw [hix', hj, if_pos (by omega), if_pos (by omega)]
        show List.take ((j : Int) + 1).toNat (b :: t) = b :: List.take (j : Int).toNat t
        rw [show ((j : Int) + 1).toNat = (j : Int).toNat + 1 by omega, List.take_succ_cons]

/-- The name of an entry, and its number. -/
def unpL (l : List UInt8) : List UInt8 := if l.length = 16 then (l.take 14).takeWhile (fun b => b != 0) else []
def unpI (a b : Int) : Int := bits .or .i64 (wrap64 a) (wrap64 (wrap64 b * 256))
def unpN (l : List UInt8) : Int := if l.length = 16 then unpI ((l.getD 14 0).toNat : Int) ((l.getD 15 0).toNat : Int) else 0
theorem at_getD (s : ByteArray) (j : Nat) (h : j < s.size) : s.data.toList.getD j 0 = s[j] := by
  obtain ⟨h2, e⟩ := at_list s j h
  rw [List.getD, List.getElem?_eq_getElem h2, ← e]; rfl

attribute [local irreducible] Int.lt Int.le
set_option maxRecDepth 100000 in
theorem unpack_any (s : ByteArray) (w : World) (hM : Mx w) (hs : s.size ≤ 1048576) :
    Calls Tryz.prog 134 #[.string s] w fun e w' => e = .returned (.tuple #[.string (bs (unpL s.data.toList)), .int .i64 (unpN s.data.toList)]) ∧ Below w.heap.size w w' := by
  have hl := size_list s
  by_cases h : s.size = 16
  · have h1 : (s.size : Int) = 16 := by omega
    have h2 : (14 : Int) ≤ (s.size : Int) := by omega
    have l14 : (14 : Int) < (s.size : Int) := by omega
    have l15 : (15 : Int) < (s.size : Int) := by omega
    obtain ⟨m, hm⟩ := hM
    have c1 := Tryz.strings_Cut (s.extract 0 14) ⟨#[0]⟩ m w (by rw [ByteArray.size_extract]; omega) hm
    have hu : bs (unpL s.data.toList) = ⟨(Lib.cut (s.extract 0 14).data.toList (ByteArray.mk #[0]).data.toList).1.toArray⟩ := by
      unfold bs unpL
      rw [if_pos (by omega)]
      have := cut_while 0 (s.extract 0 14).data.toList
      rw [show (ByteArray.mk #[0]).data.toList = [(0 : UInt8)] from rfl, this, Lib.extract_from_zero]
    have p14 : 14 < s.size := by omega
    have p15 : 15 < s.size := by omega
    have hn : unpN s.data.toList = unpI ((s[14]'p14).toNat : Int) ((s[15]'p15).toNat : Int) := by unfold unpN; rw [if_pos (by omega), at_getD s 14 (by omega), at_getD s 15 (by omega)]
    rw [hu, hn]
    unfold unpI
    generalize Lib.cut (s.extract 0 14).data.toList (ByteArray.mk #[0]).data.toList = X at *
    clear hu hn hm hl
    go_enter Tryz.func134, Tryz.ntmps134
    go_wp2_with fail
    refine c1.mono ?_; rintro e w1 ⟨rfl, q1, rfl⟩
    go_wp2_with fail
    go_quiet (fail)
    have b2 := below_drewN (below_drewN (Below.refl w.heap.size w) q1) nq
    go_wp2_with fail
    go_ret2
    exact ⟨rfl, b2⟩
  · have hu : bs (unpL s.data.toList) = ⟨#[]⟩ := by unfold unpL; rw [if_neg (by omega)]; rfl
    have hn : unpN s.data.toList = 0 := by unfold unpN; rw [if_neg (by omega)]
    rw [hu, hn]
    have h1 : ((s.size : Int) == 16) = false := beq_eq_false_iff_ne.2 (by omega)
    have h1' : ¬ (s.size : Int) = 16 := by omega
    clear hu hn
    go_enter Tryz.func134, Tryz.ntmps134
    go_wp2_with fail
    go_ret2
    exact ⟨rfl, Below.refl _ _⟩

theorem takeWhile_at : ∀ (l : List UInt8) (j : Nat), j ≤ l.length → (∀ t (h : t < l.length), t < j → l[t] ≠ 0) → (∀ h : j < l.length, l[j] = 0) → l.takeWhile (fun b => b != 0) = l.take j
  | [], j, _, _, _ => by simp
  | b :: t, 0, _, _, h => by
    have : b = 0 := h (by simp)
    rw [List.takeWhile_cons, this]; simp
  | b :: t, j + 1, hj, h1, h2 => by
    have hb : b ≠ 0 := h1 0 (by simp) (by omega)
    rw [List.takeWhile_cons, show (b != 0) = true by simp [hb], if_pos rfl, List.take_succ_cons]
    rw [takeWhile_at t j (by simpa using hj) (fun k hk hkj => h1 (k + 1) (by simp; omega) (by omega)) (fun hj2 => h2 (by simp; omega))]

set_option maxRecDepth 100000 in
theorem refUnpack_any (s : ByteArray) (w : World) (hs : s.size ≤ 1048576) :
    Calls Tryz.prog 117 #[.string s] w fun e w' => e = .returned (.tuple #[.string (bs (unpL s.data.toList)), .int .i64 (unpN s.data.toList)]) ∧ Below w.heap.size w w' := by
  have hl := size_list s
  by_cases h : s.size = 16
  · have h1 : (s.size : Int) = 16 := by omega
    have l14 : (14 : Int) < (s.size : Int) := by omega
    have l15 : (15 : Int) < (s.size : Int) := by omega
    have p14 : 14 < s.size := by omega
    have p15 : 15 < s.size := by omega
    have hn : unpN s.data.toList = unpI ((s[14]'p14).toNat : Int) ((s[15]'p15).toNat : Int) := by unfold unpN; rw [if_pos (by omega), at_getD s 14 (by omega), at_getD s 15 (by omega)]
    rw [hn]
    unfold unpI
    generalize hR : bs (unpL s.data.toList) = R
    have HR := Lib.hid hR
    clear hn hR
    go_enter Tryz.func117, Tryz.ntmps117
    go_wp2_with fail
    go_loopw [4] (fun i wr => ∃ j : Nat, j ≤ 14 ∧ i = .int .i64 (j : Int) ∧ wr = w ∧ (∀ t (ht : t < s.size), t < j → s[t] ≠ 0)) (fun i _ => 14 - (intOf i).toNat)
    case atStart => exact ⟨0, Nat.zero_le _, rfl, rfl, fun t _ ht => absurd ht (by omega)⟩
    case round =>
      obtain ⟨j, hj, rfl, rfl, hne⟩ := hrel
      have l0 : (0 : Int) ≤ (j : Int) := by omega
      have l2 : (j : Int) < (s.size : Int) := by omega
      have l3 : (j : Int) ≤ (s.size : Int) := by omega
      have pj : j < s.size := by omega
      by_cases hg : j < 14 ∧ s[j]'pj ≠ 0
      · obtain ⟨hlt, q⟩ := hg
        have l1 : (j : Int) < 14 := by omega
        have e1 := byte0 q
        have e1' := byte0' q
        have hne2 : ∀ t (ht : t < s.size), t < j + 1 → s[t] ≠ 0 := fun t ht h3 => by
          by_cases q2 : t = j
          · subst q2; exact q
          · exact hne t ht (by omega)
        have Hne := Lib.hid hne2
        clear hne hne2 hl
        go_wp2_with fail
        exact ⟨⟨j + 1, by omega, by go_num, trivial, Hne.out⟩, by simp [intOf] <;> omega⟩
      · have hr : s.extract 0 j = R := by
          rw [← HR.out]
          apply ByteArray.ext
          apply Array.toList_inj.1
          rw [Lib.extract_from_zero, list_bs]
          unfold unpL
          rw [if_pos (by omega)]
          rw [takeWhile_at (s.data.toList.take 14) j (by simp; omega) (fun t ht htj => by
            obtain ⟨_, e⟩ := at_list s t (by omega)
            rw [List.getElem_take, e]; exact hne t (by omega) htj) (fun hjl => by
            obtain ⟨_, e⟩ := at_list s j (by omega)
            rw [List.getElem_take, e]
            exact Classical.byContradiction fun q => hg ⟨by simp at hjl; omega, q⟩)]
          rw [List.take_take, Nat.min_eq_left hj]
        have htest : (j : Int) = 14 ∨ ((j : Int) < 14 ∧ (((s[j]'pj).toNat : Int) == 0) = true ∧ ((s[j]'pj).toNat : Int) = 0) := by
          by_cases c : j < 14
          · have q : s[j]'pj = 0 := Classical.byContradiction fun q => hg ⟨c, q⟩
            exact Or.inr ⟨by omega, by rw [q]; rfl, by rw [q]; rfl⟩
          · exact Or.inl (by omega)
        subst hr
        clear hne hl HR hg
        rcases htest with c | ⟨c, e1, e1'⟩
        case' inl => obtain rfl : j = 14 := by omega
        all_goals
          go_wp2_with fail
          go_quiet (fail)
          have b2 := below_drewN (Below.refl wr.heap.size wr) nq
          go_wp2_with fail
          go_ret2
          exact ⟨rfl, b2⟩
  · have hu : bs (unpL s.data.toList) = ⟨#[]⟩ := by unfold unpL; rw [if_neg (by omega)]; rfl
    have hn : unpN s.data.toList = 0 := by unfold unpN; rw [if_neg (by omega)]
    rw [hu, hn]
    have h1 : ((s.size : Int) == 16) = false := beq_eq_false_iff_ne.2 (by omega)
    have h1' : ¬ (s.size : Int) = 16 := by omega
    clear hu hn
    go_enter Tryz.func117, Tryz.ntmps117
    go_wp2_with fail
    go_ret2
    exact ⟨rfl, Below.refl _ _⟩
end Go.Proofs.YtfcgkjbifnhjjaaGreatDoor.St

namespace Go.Proofs.YtfcgkjbifnhjjaaGreatDoor.St
open Go.RowKit
set_option linter.unusedVariables false

/-! ### an entry that is packed comes back -/
theorem i64_small (n : Nat) (h : n < 9223372036854775808) : IntKind.i64.wrap (n : Int) = n := by
  unfold IntKind.wrap; simp [IntKind.bits, IntKind.signed]; omega
theorem ofInt_small (m : Nat) (h : m < 18446744073709551616) : (BitVec.ofInt 64 (m : Int)).toNat = m := by
  rw [BitVec.ofInt_natCast, BitVec.toNat_ofNat]; exact Nat.mod_eq_of_lt (by omega)
theorem unpI_eq (a b : Nat) (ha : a < 256) (hb : b < 256) : unpI (a : Int) (b : Int) = ((a + 256 * b : Nat) : Int) := by
  have e1 : wrap64 (a : Int) = ((a : Nat) : Int) := by unfold wrap64; omega
  have e2 : wrap64 (wrap64 (b : Int) * 256) = ((2 ^ 8 * b : Nat) : Int) := by unfold wrap64; omega
  unfold unpI
  rw [e1, e2]
  show IntKind.i64.wrap (((BitVec.ofInt 64 (a : Int)) ||| (BitVec.ofInt 64 ((2 ^ 8 * b : Nat) : Int))).toNat : Int) = _
  rw [BitVec.toNat_or, ofInt_small _ (by omega), ofInt_small _ (by omega), Nat.or_comm, ← Nat.two_pow_add_eq_or_of_lt (by omega : a < 2 ^ 8), i64_small _ (by omega)]
  omega
theorem packL_len (l : List UInt8) (n : Int) : (packL l n).length = 16 := by unfold packL; simp
theorem packL_at (l : List UInt8) (n : Int) (j : Nat) (h : j < 16) : (packL l n)[j]? = some (UInt8.ofNat (pkI l n j).toNat) := by unfold packL; simp [h]
theorem unpN_pack (l : List UInt8) (n : Int) : unpN (packL l n) = n % 65536 := by
  unfold unpN
  rw [if_pos (packL_len l n), List.getD, List.getD, packL_at l n 14 (by decide), packL_at l n 15 (by decide)]
  have h1 : ((UInt8.ofNat (pkI l n 14).toNat).toNat : Nat) = (n % 256).toNat := by
    show (n % 256).toNat % 256 = _
    omega
  have h2 : ((UInt8.ofNat (pkI l n 15).toNat).toNat : Nat) = (n / 256 % 256).toNat := by
    show (n / 256 % 256).toNat % 256 = _
    omega
  show unpI (((UInt8.ofNat (pkI l n 14).toNat).toNat : Nat) : Int) (((UInt8.ofNat (pkI l n 15).toNat).toNat : Nat) : Int) = _
  rw [h1, h2, unpI_eq _ _ (by omega) (by omega)]
  omega
theorem while_zeros : ∀ (k : Nat) (l : List UInt8), ((List.range k).map fun j => l.getD j 0).takeWhile (fun b => b != 0) = (l.take k).takeWhile (fun b => b != 0)
  | 0, l => by simp
  | k + 1, [] => by simp [List.range_succ_eq_map]
  | k + 1, b :: t => by
    have ih := while_zeros k t
    rw [List.range_succ_eq_map, List.map_cons, List.map_map, List.take_succ_cons, List.takeWhile_cons, List.takeWhile_cons]
    show (if (b != 0) = true then b :: (List.map (fun j => t.getD j 0) (List.range k)).takeWhile (fun b => b != 0) else []) = _
    rw [ih]
theorem pack_take (l : List UInt8) (n : Int) : (packL l n).take 14 = (List.range 14).map fun j => l.getD j 0 := by
  apply List.ext_getElem?
  intro j
  by_cases h : j < 14
  · rw [List.getElem?_take_of_lt h, packL_at l n j (by omega)]
    unfold pkI
    rw [if_pos h]
    simp [h]
  · rw [List.getElem?_eq_none (by simp; omega), List.getElem?_eq_none (by simp; omega)]
theorem unpL_pack (l : List UInt8) (n : Int) : unpL (packL l n) = (l.take 14).takeWhile (fun b => b != 0) := by
  unfold unpL
  rw [if_pos (packL_len l n), pack_take, while_zeros]
theorem takeWhile_all (p : UInt8 → Bool) : ∀ l : List UInt8, (∀ b ∈ l, p b = true) → l.takeWhile p = l
  | [], _ => rfl
  | b :: t, h => by rw [List.takeWhile_cons, h b (by simp), takeWhile_all p t (fun c hc => h c (by simp [hc]))]; rfl
theorem unpL_right (l : List UInt8) (n : Int) (h : rightL l = true) : unpL (packL l n) = l := by
  unfold rightL at h
  simp at h
  obtain ⟨⟨⟨_, h1⟩, _⟩, h0⟩ := h
  rw [unpL_pack, List.take_of_length_le h1, takeWhile_all]
  intro b hb
  have : b ≠ 0 := fun e => h0 (e ▸ hb)
  simpa using this
theorem unpL_len (l : List UInt8) : (unpL l).length ≤ 14 := by
  unfold unpL
  split
  · exact Nat.le_trans (List.takeWhile_prefix _).length_le (by simp; omega)
  · simp

/-! ### the entries of a text -/
/-- An entry: its name and its number. -/
abbrev Ent := ByteArray × Int
def entE (c : List UInt8) : Ent := (bs (unpL c), unpN c)
/-- The entry at a place of a directory's text. -/
def entAt (l : List UInt8) (i : Nat) : Ent := entE ((l.drop (16 * i)).take 16)
/-- The entries of a directory's text. -/
def entsL (l : List UInt8) : List Ent := (List.range (l.length / 16)).map (entAt l)
theorem entsL_len (l : List UInt8) : (entsL l).length = l.length / 16 := by unfold entsL; simp
theorem entsL_at (l : List UInt8) (i : Nat) (h : i < l.length / 16) : (entsL l)[i]? = some (entAt l i) := by unfold entsL; simp [h]
theorem entsL_none (l : List UInt8) (i : Nat) (h : l.length / 16 ≤ i) : (entsL l)[i]? = none := List.getElem?_eq_none (by rw [entsL_len]; exact h)

theorem entE_pack (l : List UInt8) (n : Int) (h : rightL l = true) (h0 : 0 ≤ n) (h1 : n < 65536) : entE (packL l n) = (bs l, n) := by
  unfold entE
  rw [unpL_right l n h, unpN_pack, Int.emod_eq_of_lt h0 h1]
theorem entE_none : entE (packL [] 0) = (bs [], 0) := by
  unfold entE
  rw [unpN_pack, unpL_pack]; rfl

/-- A write of an entry's bytes at an entry's place. -/
def overL (l e : List UInt8) (i : Nat) : List UInt8 := l.take (16 * i) ++ e ++ l.drop (16 * i + 16)
theorem overL_len (l e : List UInt8) (i : Nat) (he : e.length = 16) (hi : i ≤ l.length / 16) : (overL l e i).length = max l.length (16 * i + 16) := by
  unfold overL; simp [he]; omega
theorem overL_at (l e : List UInt8) (i j : Nat) (he : e.length = 16) (hi : i ≤ l.length / 16) : entAt (overL l e i) j = if j = i then entE e else entAt l j := by
  have h1 : (l.take (16 * i)).length = 16 * i := by simp; omega
  unfold entAt
  by_cases hj : j = i
  · subst hj
    rw [if_pos rfl]
    congr 1
    unfold overL
    rw [List.append_assoc, List.drop_append_of_le_length (by omega), List.drop_eq_nil_of_le (by omega), List.nil_append, List.take_append_of_le_length (by omega), List.take_of_length_le (by omega)]
  · rw [if_neg hj]
    congr 1
    apply List.ext_getElem?
    intro k
    by_cases hk : k < 16
    · rw [List.getElem?_take_of_lt hk, List.getElem?_take_of_lt hk, List.getElem?_drop, List.getElem?_drop]
      unfold overL
      by_cases hlt : j < i
      · rw [List.getElem?_append_left (by simp [h1]; omega), List.getElem?_append_left (by omega), List.getElem?_take_of_lt (by omega)]
      · rw [List.getElem?_append_right (by simp [h1, he]; omega), List.getElem?_drop]
        congr 1
        simp [h1, he]; omega
    · rw [List.getElem?_eq_none (by simp; omega), List.getElem?_eq_none (by simp; omega)]
theorem ents_over (l e : List UInt8) (i : Nat) (he : e.length = 16) (hi : i < l.length / 16) : entsL (overL l e i) = (entsL l).set i (entE e) := by
  have hl := overL_len l e i he (by omega)
  apply List.ext_getElem?
  intro j
  rw [List.getElem?_set]
  by_cases hj : j < l.length / 16
  · rw [entsL_at _ _ (by omega), overL_at _ _ _ _ he (by omega), entsL_len]
    by_cases e1 : i = j
    · subst e1; simp [hi]
    · rw [if_neg (Ne.symm e1), if_neg e1, entsL_at _ _ hj]
  · rw [entsL_none _ _ (by omega), if_neg (by omega), entsL_none _ _ (by omega)]
theorem ents_more (l e : List UInt8) (he : e.length = 16) : entsL (overL l e (l.length / 16)) = entsL l ++ [entE e] := by
  have hl := overL_len l e (l.length / 16) he (by omega)
  apply List.ext_getElem?
  intro j
  by_cases hj : j < l.length / 16
  · rw [entsL_at _ _ (by omega), overL_at _ _ _ _ he (by omega), if_neg (by omega), List.getElem?_append_left (by rw [entsL_len]; exact hj), entsL_at _ _ hj]
  · by_cases h2 : j = l.length / 16
    · subst h2
      rw [entsL_at _ _ (by omega), overL_at _ _ _ _ he (by omega), if_pos rfl, List.getElem?_append_right (by rw [entsL_len]; exact Nat.le_refl _), entsL_len, Nat.sub_self]; rfl
    · rw [entsL_none _ _ (by omega), List.getElem?_eq_none (by simp [entsL_len]; omega)]

/-! ### looking for entries -/
/-- An entry that isn't free. -/
def thereE (e : Ent) : Bool := decide (1 ≤ e.2) && decide (e.2 < 16)
/-- An entry that bears a name. -/
def bearsE (s : ByteArray) (e : Ent) : Bool := thereE e && decide (e.1 = s)
/-- The first place of which a thing is true; below 0: none. -/
def findI (p : Ent → Bool) (es : List Ent) : Int := match es.findIdx? p with
  | some i => (i : Int)
  | none => -1
theorem findI_hit {p : Ent → Bool} {es : List Ent} {j : Nat} (h : j < es.length) (hp : p es[j] = true) (hn : ∀ t (ht : t < es.length), t < j → p es[t] = false) : findI p es = j := by
  unfold findI
  have : es.findIdx? p = some j := by
    rw [List.findIdx?_eq_some_iff_getElem]
    exact ⟨h, hp, fun t ht => by rw [hn t (by omega) ht]; decide⟩
  rw [this]
theorem findI_miss {p : Ent → Bool} {es : List Ent} (hn : ∀ t (ht : t < es.length), p es[t] = false) : findI p es = -1 := by
  unfold findI
  have : es.findIdx? p = none := by
    rw [List.findIdx?_eq_none_iff]
    intro x hx
    obtain ⟨t, ht, rfl⟩ := List.mem_iff_getElem.1 hx
    exact hn t ht
  rw [this]
theorem findI_cases (p : Ent → Bool) (es : List Ent) : (findI p es = -1 ∧ ∀ e ∈ es, p e = false) ∨ ∃ j : Nat, ∃ h : j < es.length, findI p es = j ∧ p es[j] = true ∧ ∀ t (ht : t < es.length), t < j → p es[t] = false := by
  unfold findI
  cases h : es.findIdx? p with
  | none => exact Or.inl ⟨rfl, List.findIdx?_eq_none_iff.1 h⟩
  | some j =>
    obtain ⟨h1, h2, h3⟩ := List.findIdx?_eq_some_iff_getElem.1 h
    exact Or.inr ⟨j, h1, rfl, h2, fun t ht hj => by simpa using h3 t hj⟩
/-- Where a name's entry stands; below 0: it isn't there. -/
def placeE (es : List Ent) (s : ByteArray) : Int := if rightL s.data.toList = true then findI (bearsE s) es else -1
/-- The names that are there. -/
def namesE (es : List Ent) : List ByteArray := (es.filter thereE).map (·.1)
def ownName (s : ByteArray) : Bool := !decide (s = ⟨#[46]⟩) && !decide (s = ⟨#[46, 46]⟩)
def bareE (es : List Ent) : Bool := !(namesE es).any ownName
theorem namesE_take (es : List Ent) (j : Nat) (h : j < es.length) : namesE (es.take (j + 1)) = namesE (es.take j) ++ (if thereE es[j] = true then [es[j].1] else []) := by
  unfold namesE
  rw [List.take_succ_eq_append_getElem h, List.filter_append, List.map_append]
  congr 1
  by_cases c : thereE es[j] = true
  · rw [if_pos c]; simp [c]
  · rw [if_neg c]; simp [c]
end Go.Proofs.YtfcgkjbifnhjjaaGreatDoor.St
