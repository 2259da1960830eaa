/- The contracts of file.Read and file.Write of a pipe's ends and of the console, over a view in memory. No condition but those written in each statement. -/
import Derived.Test.YtdlcbclfniahoaaFilT
import Derived.Test.YtdlcbclfniahoaaPipS
namespace Go.Proofs.Ytdlcbclfniahoaa.St
open Go.RowKit
set_option linter.unusedVariables false

attribute [local go_sem] blk_alloc_at blk_alloc_past blk_drew blk_drewN blk_setB_same blk_setB_other blk_setRow_other setRow_alloc_at setRow_alloc_past setRow_drewN setRow_drew setB_size setB_cell setB_frozen setB_alloc_past setB_drewN setB_drew run_loadV loadOr_cells run_storeV storeOr_cells cells_size ones_cells cells_0 cells_1 cells_2 cells_3 cells_4 cells_16 cells_g0 cells_g1 cells_g2 cells_g3 cells_g4 cells_g16 cells_set0 cells_set1 cells_set2 cells_set3 cells_set4 cells_text
attribute [local go_sem ↓] execOp_loadV execOp_storeV
attribute [local go_sem ↓] wp_at0 wp_at1 wp_at2 wp_at3 wp_at4 wp_at5 wp_at6 wp_at7

attribute [local irreducible] Int.lt Int.le
set_option maxRecDepth 100000 in
theorem fread_mode (L : Lay) (st : VSt) (f n : Int) (hh : fHas st f = true) (hn : 0 ≤ n) (hm : (bits .and .i64 ((st.get 6 f).n 4) 1 == 0) = true) (w : World) (hV : ViewAt w L st) :
    Calls Try.prog 12 #[.pointer (some ⟨L.v, 0, none⟩), .int .i64 f, .int .i64 n] w fun e w' => e = .returned (.tuple #[.string ByteArray.empty, .int .i64 1]) ∧ ViewAt w' L (fs1 st f) ∧ Turn (fun k => k = L.r ∨ k = L.m) w w' := by
  have lt := hV.lts
  obtain ⟨s1, hs1⟩ : ∃ s1, s1 = fs1 st f := ⟨_, rfl⟩
  rw [← hs1]
  have Hs := Lib.hid hs1
  clear hs1
  have hz := zero_val
  have hnd : decide (n < 0) = false := decide_eq_false (by omega)
  go_enter Try.func12, Try.ntmps12
  go_wp2_with fail
  refine (fis_any L st f w hV).mono ?_; rw [hh]; rintro e w1 ⟨rfl, hv1, t1⟩
  go_wp2_with fail
  refine (fkey_any f _).mono ?_; rintro e w2 ⟨rfl, t2⟩
  have hv2 := hv1.below t2
  have t2' := t1.trans (Turn.of_below t2 _)
  clear hv1 t1 t2
  go_wp2_with fail
  refine (vget_any L (fSaw st f) 6 f _ hv2).mono ?_; rw [fSaw_get]; rintro e w3 ⟨rfl, hv3, t3⟩
  have t3' := t2'.trans t3
  rw [show (fSaw st f).saw 6 f = s1 from Hs.out.symm] at hv3
  clear Hs
  clear hv2 t2' t3 hh hV
  generalize st.get 6 f = x at *
  go_upto_region 4 with fail
  have b3 : blk (w3.alloc (Obj.cells x.cells 58)) w3.heap.size = some (.cells x.cells 58 (0, 0)) := blk_alloc_at _ _ _ rfl
  have hv4 := hv3.alloc (Obj.cells x.cells 58)
  have t4 := t3'.alloc (Obj.cells x.cells 58)
  generalize w3.alloc (Obj.cells x.cells 58) = W4 at *
  generalize w3.heap.size = B at *
  have c4 := cell_of_row _ _ 4 _ _ _ b3
  rw [cells_4] at c4
  go_wp2_with fail
  go_ret2
  exact ⟨rfl, hv4, t4.mono fun _ _ => Or.inl⟩
set_option maxRecDepth 100000 in
theorem fread_pipe (L : Lay) (st : VSt) (f n : Int) (hh : fHas st f = true) (hn : 0 ≤ n) (hm : (bits .and .i64 ((st.get 6 f).n 4) 1 == 0) = false) (hk : (st.get 6 f).n 0 = 2) (wh : Int) (hwh : (st.get 6 f).n 2 = wh) (w : World) (hV : ViewAt w L st) :
    Calls Try.prog 12 #[.pointer (some ⟨L.v, 0, none⟩), .int .i64 f, .int .i64 n] w fun e w' => e = .returned (.tuple #[.string (pRead (fs1 st f) wh n), .int .i64 (pReadS (fs1 st f) wh n)]) ∧ ViewAt w' L (pReadV (fs1 st f) wh n) ∧ Turn (fun k => k = L.r ∨ k = L.m) w w' := by
  have lt := hV.lts
  obtain ⟨s1, hs1⟩ : ∃ s1, s1 = fs1 st f := ⟨_, rfl⟩
  rw [← hs1]
  have Hs := Lib.hid hs1
  clear hs1
  have hz := zero_val
  have hnd : decide (n < 0) = false := decide_eq_false (by omega)
  go_enter Try.func12, Try.ntmps12
  go_wp2_with fail
  refine (fis_any L st f w hV).mono ?_; rw [hh]; rintro e w1 ⟨rfl, hv1, t1⟩
  go_wp2_with fail
  refine (fkey_any f _).mono ?_; rintro e w2 ⟨rfl, t2⟩
  have hv2 := hv1.below t2
  have t2' := t1.trans (Turn.of_below t2 _)
  clear hv1 t1 t2
  go_wp2_with fail
  refine (vget_any L (fSaw st f) 6 f _ hv2).mono ?_; rw [fSaw_get]; rintro e w3 ⟨rfl, hv3, t3⟩
  have t3' := t2'.trans t3
  rw [show (fSaw st f).saw 6 f = s1 from Hs.out.symm] at hv3
  clear Hs
  clear hv2 t2' t3 hh hV
  generalize st.get 6 f = x at *
  go_upto_region 4 with fail
  have b3 : blk (w3.alloc (Obj.cells x.cells 58)) w3.heap.size = some (.cells x.cells 58 (0, 0)) := blk_alloc_at _ _ _ rfl
  have hv4 := hv3.alloc (Obj.cells x.cells 58)
  have t4 := t3'.alloc (Obj.cells x.cells 58)
  generalize w3.alloc (Obj.cells x.cells 58) = W4 at *
  generalize w3.heap.size = B at *
  have c0 := cell_of_row _ _ 0 _ _ _ b3
  have c2 := cell_of_row _ _ 2 _ _ _ b3
  have c4 := cell_of_row _ _ 4 _ _ _ b3
  rw [cells_0, hk] at c0
  rw [cells_2, hwh] at c2
  rw [cells_4] at c4
  go_wp2_with fail
  refine (pread_any L s1 wh n _ hv4).mono ?_; rintro e w5 ⟨rfl, hv5, t5⟩
  go_wp2_with fail
  go_ret2
  exact ⟨rfl, hv5, (t4.mono fun _ _ => Or.inl).trans t5⟩
set_option maxRecDepth 100000 in
theorem fwrite_pipe (L : Lay) (st : VSt) (f : Int) (D : ByteArray) (hh : fHas st f = true) (hm : (bits .and .i64 ((fGet st f).n 4) 2 == 0) = false) (hk : (fGet st f).n 0 = 3) (wh : Int) (hwh : (fGet st f).n 2 = wh)
    (hs : (((fGot st f).get 8 wh).s.size : Int) ≤ 140737488351232) (hd : (D.size : Int) ≤ 140737488351232) (w : World) (hV : ViewAt w L st) :
    Calls Try.prog 15 #[.pointer (some ⟨L.v, 0, none⟩), .int .i64 f, .string D] w fun e w' => e = .returned (.tuple #[.int .i64 (pWrote (fGot st f) wh D).1, .int .i64 (pWrote (fGot st f) wh D).2]) ∧ ViewAt w' L (pWriteV (fGot st f) wh D) ∧ Turn (fun k => k = L.r ∨ k = L.m) w w' := by
  have lt := hV.lts
  obtain ⟨s1, hs1⟩ : ∃ s1, s1 = fGot st f := ⟨_, rfl⟩
  rw [← hs1]
  rw [← hs1] at hs
  have Hs := Lib.hid hs1
  clear hs1
  have hz := zero_val
  go_enter Try.func15, Try.ntmps15
  go_wp2_with fail
  refine (fget_any L st f w hV).mono ?_; rw [hh]; rintro e w3 ⟨rfl, hv3, t3'⟩
  rw [← Hs.out] at hv3
  clear Hs
  clear hh hV
  generalize fGet st f = x at *
  go_upto_region 2 with fail
  have b3 : blk (w3.alloc (Obj.cells x.cells 58)) w3.heap.size = some (.cells x.cells 58 (0, 0)) := blk_alloc_at _ _ _ rfl
  have hv4 := hv3.alloc (Obj.cells x.cells 58)
  have t4 := t3'.alloc (Obj.cells x.cells 58)
  generalize w3.alloc (Obj.cells x.cells 58) = W4 at *
  generalize w3.heap.size = B at *
  clear hv3 t3'
  have c0 := cell_of_row _ _ 0 _ _ _ b3
  have c2 := cell_of_row _ _ 2 _ _ _ b3
  have c4 := cell_of_row _ _ 4 _ _ _ b3
  rw [cells_0, hk] at c0
  rw [cells_2, hwh] at c2
  rw [cells_4] at c4
  go_wp2_with fail
  refine (pwrite_any L s1 wh D hs hd _ hv4).mono ?_; rintro e w5 ⟨rfl, hv5, t5⟩
  go_wp2_with fail
  go_ret2
  exact ⟨rfl, hv5, (t4.mono fun _ _ => Or.inl).trans t5⟩

set_option maxRecDepth 100000 in
/-- The console: nothing is there to be read. -/
theorem typed_none (L : Lay) (st : VSt) (n : Int) (x : Val) (hx : st.get 11 0 = x) (h1 : 0 < n) (h2 : x.s = ⟨#[]⟩) (w : World) (hV : ViewAt w L st) :
    Calls Try.prog 38 #[.pointer (some ⟨L.v, 0, none⟩), .int .i64 n] w fun e w' => e = .returned (.tuple #[.string ⟨#[]⟩, .int .i64 2]) ∧ ViewAt w' L (st.saw 11 0) ∧ Turn (· = L.r) w w' := by
  have h0 : ¬ n ≤ 0 := by omega
  have hv1 := hV.alloc (Obj.cells #[.int .i64 11, .int .i64 0] 61)
  have t1 := (Turn.refl (· = L.r) w).alloc (Obj.cells #[.int .i64 11, .int .i64 0] 61)
  go_enter Try.func38, Try.ntmps38
  go_wp2_with fail
  generalize w.alloc (Obj.cells #[.int .i64 11, .int .i64 0] 61) = W1 at *
  refine (vget_any L st 11 0 W1 hv1).mono ?_; rw [hx]; rintro e w2 ⟨rfl, hv2, t2⟩
  go_wp2_with fail
  go_ret2
  exact ⟨rfl, hv2.alloc _, (t1.trans t2).alloc _⟩
set_option maxRecDepth 100000 in
/-- The console: bytes are read. -/
theorem typed_some (L : Lay) (st : VSt) (n : Int) (x : Val) (hx : st.get 11 0 = x) (h1 : 0 < n) (h2 : 0 < x.s.size) (w : World) (hV : ViewAt w L st) :
    Calls Try.prog 38 #[.pointer (some ⟨L.v, 0, none⟩), .int .i64 n] w fun e w' => e = .returned (.tuple #[.string (pTook x.s n), .int .i64 0]) ∧ ViewAt w' L ((st.saw 11 0).put 11 0 (x.text (pLeft x.s n))) ∧ Turn (fun k => k = L.r ∨ k = L.m) w w' := by
  have h0 : ¬ n ≤ 0 := by omega
  have hn := list_ne h2
  have hm2 := list_some x.s h2
  have hmx : max n 0 = n := by omega
  have lt := hV.lts
  have key : (n ≤ (x.s.size : Int) ∧ pTook x.s n = x.s.extract 0 n.toNat ∧ pLeft x.s n = x.s.extract n.toNat x.s.size) ∨ ((x.s.size : Int) < n ∧ pTook x.s n = x.s ∧ pLeft x.s n = ByteArray.empty) := by
    unfold pTook pLeft
    by_cases c : n ≤ (x.s.size : Int)
    · exact Or.inl ⟨c, by rw [show min n (x.s.size : Int) = n by omega], by rw [show min n (x.s.size : Int) = n by omega]⟩
    · refine Or.inr ⟨by omega, ?_, ?_⟩
      · rw [show (min n (x.s.size : Int)).toNat = x.s.size by omega]; exact ByteArray.extract_zero_size
      · rw [show (min n (x.s.size : Int)).toNat = x.s.size by omega]; apply ByteArray.ext; simp
  have hv1 := hV.alloc (Obj.cells #[.int .i64 11, .int .i64 0] 61)
  have t1 := (Turn.refl (· = L.r) w).alloc (Obj.cells #[.int .i64 11, .int .i64 0] 61)
  have b1 : blk (w.alloc (Obj.cells #[.int .i64 11, .int .i64 0] 61)) w.heap.size = some (.cells #[.int .i64 11, .int .i64 0] 61 (0, 0)) := blk_alloc_at _ _ _ rfl
  have s1 : w.heap.size < (w.alloc (Obj.cells #[.int .i64 11, .int .i64 0] 61)).heap.size := by simp
  rcases key with ⟨c1, k1, k2⟩ | ⟨c1, k1, k2⟩
  case' inl => obtain ⟨y, hy⟩ : ∃ y, y = x.text (x.s.extract n.toNat x.s.size) := ⟨_, rfl⟩
  case' inr => obtain ⟨y, hy⟩ : ∃ y, y = x.text ByteArray.empty := ⟨_, rfl⟩
  all_goals
    rw [k1, k2, ← hy]
    have Hy := Lib.hid hy
    clear k1 k2 hy
    go_enter Try.func38, Try.ntmps38
    go_wp2_with fail
    generalize w.alloc (Obj.cells #[.int .i64 11, .int .i64 0] 61) = W1 at *
    refine (vget_any L st 11 0 W1 hv1).mono ?_; rw [hx]; rintro e w3 ⟨rfl, hv3, t3⟩
    have t3' := t1.trans t3
    have b3 : blk w3 w.heap.size = some (.cells #[.int .i64 11, .int .i64 0] 61 (0, 0)) := blk_of_turn t3 b1 (by omega)
    have s3 := t3.size
    clear t1 hv1 t3 b1
    have d0 : ∀ z : Val, (w3.alloc (Obj.cells z.cells 58)).cell? ⟨w.heap.size, 0, none⟩ = some (.int .i64 11) := fun z => cell_of_row _ _ 0 _ _ _ (blk_below ((Below.refl w3.heap.size w3).alloc (Nat.le_refl _) (Obj.cells z.cells 58)) b3 (by omega))
    have d1 : ∀ z : Val, (w3.alloc (Obj.cells z.cells 58)).cell? ⟨w.heap.size, 1, none⟩ = some (.int .i64 0) := fun z => cell_of_row _ _ 1 _ _ _ (blk_below ((Below.refl w3.heap.size w3).alloc (Nat.le_refl _) (Obj.cells z.cells 58)) b3 (by omega))
    go_wp2_with fail
    rw [← Hy.out]
    have hv4 := hv3.alloc (Obj.cells y.cells 58)
    have t4 := t3'.alloc (Obj.cells y.cells 58)
    generalize w3.alloc (Obj.cells y.cells 58) = W4 at *
    refine (vput_any L (st.saw 11 0) 11 0 y W4 hv4).mono ?_; rintro e w5 ⟨rfl, hv5, t5⟩
    go_wp2_with fail
    go_ret2
    exact ⟨rfl, hv5, (t4.mono fun _ _ => Or.inl).trans (t5.mono fun _ _ => Or.inr)⟩
/-- What the console is behind bytes written. -/
def cN (a : Int) : Nat → Int
  | 0 => a
  | j + 1 => wrap64 (cN a j + 1)
def consN (x : Val) (k : Nat) (y : Int) : Val := (x.set 0 (cN (x.n 0) k)).set 1 y
theorem cN_small (j : Nat) (h : j ≤ 1000) : cN 0 j = j := by
  induction j with
  | zero => rfl
  | succ j ih => unfold cN; rw [ih (by omega)]; unfold wrap64; omega
theorem consN_zero (x : Val) : consN x 0 (x.n 1) = x := by
  unfold consN Val.set
  cases x with
  | mk n s =>
    simp only [Val.mk.injEq, and_true]
    funext i
    by_cases h1 : i = 1
    · simp [h1]
    · by_cases h0 : i = 0
      · simp [h0, cN]
      · simp [h0, h1]
theorem consN_step (x : Val) (j : Nat) (y v : Int) : ((consN x j y).set 0 (wrap64 (cN (x.n 0) j + 1))).set 1 v = consN x (j + 1) v := by
  unfold consN Val.set
  simp only [Val.mk.injEq, and_true]
  funext i
  by_cases h1 : i = 1
  · simp [h1]
  · by_cases h0 : i = 0
    · simp [h0, cN]
    · simp [h0, h1]
theorem consN_n0 (x : Val) (j : Nat) (y : Int) : (consN x j y).n 0 = cN (x.n 0) j := by simp [consN, Val.set]
theorem consN_n1 (x : Val) (j : Nat) (y : Int) : (consN x j y).n 1 = y := by simp [consN, Val.set]
/-- A row of bytes. -/
def BR (W : World) (G : Nat) (l : List UInt8) : Prop := ∀ j (h : j < l.length), W.cell? ⟨G, j, none⟩ = some (.int .u8 (l[j].toNat : Int))
/-- What the loop over the bytes holds. -/
structure SHN (w W : World) (L : Lay) (st : VSt) (x : Val) (D : ByteArray) (K B G j : Nat) (y : Int) : Prop where
  v : ViewAt W L st
  t : Turn (· = L.r) w W
  k : blk W K = some (.cells #[.int .i64 11, .int .i64 0] 61 (0, 0))
  b : blk W B = some (.cells (consN x j y).cells 58 (0, 0))
  r : BR W G D.data.toList
theorem SHN.next {w W : World} {L : Lay} {st : VSt} {x : Val} {D : ByteArray} {K B G j : Nat} {y : Int} (H : SHN w W L st x D K B G j y) (lt : L.v < w.heap.size ∧ L.s < w.heap.size ∧ L.l < w.heap.size ∧ L.r < w.heap.size ∧ L.m < w.heap.size) (hB : w.heap.size ≤ B) (hK : K ≠ B) (hG : G ≠ B) (v : Int) :
    SHN w ((W.setCell ⟨B, 0, none⟩ (.int .i64 (wrap64 (cN (x.n 0) j + 1)))).setCell ⟨B, 1, none⟩ (.int .i64 v)) L st x D K B G (j + 1) v := by
  have tl : Turn (fun k => w.heap.size ≤ k) W ((W.setCell ⟨B, 0, none⟩ (.int .i64 (wrap64 (cN (x.n 0) j + 1)))).setCell ⟨B, 1, none⟩ (.int .i64 v)) :=
    ((Turn.refl _ _).setCell (p := ⟨B, 0, none⟩) (Or.inl hB) _).setCell (p := ⟨B, 1, none⟩) (Or.inl hB) _
  have tb : Turn (fun k => k = B) W ((W.setCell ⟨B, 0, none⟩ (.int .i64 (wrap64 (cN (x.n 0) j + 1)))).setCell ⟨B, 1, none⟩ (.int .i64 v)) :=
    ((Turn.refl (fun k => k = B) W).setCell (p := ⟨B, 0, none⟩) (Or.inl (show B = B from rfl)) _).setCell (p := ⟨B, 1, none⟩) (Or.inl (show B = B from rfl)) _
  refine ⟨H.v.off tl lt, H.t.offS tl (Nat.le_refl _), blk_of_turn tb H.k hK, ?_, fun i hi => ?_⟩
  · have := blk_setCell_same (blk_setCell_same H.b 0 (.int .i64 (wrap64 (cN (x.n 0) j + 1)))) 1 (.int .i64 v)
    rw [cells_set0, cells_set1, consN_step] at this
    exact this
  · rw [World.cell?_setCell_other _ _ _ _ (fun q => hG (by cases q; rfl)), World.cell?_setCell_other _ _ _ _ (fun q => hG (by cases q; rfl))]
    exact H.r i hi
set_option maxRecDepth 100000 in
/-- The console: bytes are written. -/
theorem shown_any (L : Lay) (st : VSt) (D : ByteArray) (x : Val) (hx : st.get 11 0 = x) (hd : D.size ≤ 1000) (w : World) (hV : ViewAt w L st) :
    Calls Try.prog 43 #[.pointer (some ⟨L.v, 0, none⟩), .string D] w fun e w' => e = .returned (.tuple #[.int .i64 D.size, .int .i64 0]) ∧ ∃ y, ViewAt w' L ((st.saw 11 0).put 11 0 (consN x D.size y)) ∧ Turn (fun k => k = L.r ∨ k = L.m) w w' := by
  have lt := hV.lts
  have hcv := fun W => run_bytes_of_string (P := Try.prog) W 9 79 5 D Try.underlying9 Try.underlying79 Try.underlying5
  have hv1 := hV.alloc (Obj.cells #[.int .i64 11, .int .i64 0] 61)
  have t1 := (Turn.refl (· = L.r) w).alloc (Obj.cells #[.int .i64 11, .int .i64 0] 61)
  have b1 : blk (w.alloc (Obj.cells #[.int .i64 11, .int .i64 0] 61)) w.heap.size = some (.cells #[.int .i64 11, .int .i64 0] 61 (0, 0)) := blk_alloc_at _ _ _ rfl
  have s1 : w.heap.size < (w.alloc (Obj.cells #[.int .i64 11, .int .i64 0] 61)).heap.size := by simp
  go_enter Try.func43, Try.ntmps43
  go_wp2_with fail
  generalize w.alloc (Obj.cells #[.int .i64 11, .int .i64 0] 61) = W1 at *
  refine (vget_any L st 11 0 W1 hv1).mono ?_; rw [hx]; rintro e w3 ⟨rfl, hv3, t3⟩
  have t3' := t1.trans t3
  have b3 : blk w3 w.heap.size = some (.cells #[.int .i64 11, .int .i64 0] 61 (0, 0)) := blk_of_turn t3 b1 (by omega)
  have s3 := t3.size
  clear t1 hv1 t3 b1
  go_upto_region 4 with fail
  clear hcv
  have S0 : ∃ G C W, G = w3.heap.size + 1 ∧ W = ((w3.alloc (Obj.cells x.cells 58)).alloc (Obj.cells (bytesRow D (grownCap (w3.alloc (Obj.cells x.cells 58)) D.size 0 5)) 5 ((bytesRow D (grownCap (w3.alloc (Obj.cells x.cells 58)) D.size 0 5)).size, (bytesRow D (grownCap (w3.alloc (Obj.cells x.cells 58)) D.size 0 5)).size + 1))).drew ∧ C = grownCap (w3.alloc (Obj.cells x.cells 58)) D.size 0 5 := ⟨_, _, _, rfl, rfl, rfl⟩
  obtain ⟨G, C, W5, hG, hW, hC⟩ := S0
  rw [← hC] at hW ⊢
  rw [← hW, ← hG]
  have I0 : SHN w W5 L (st.saw 11 0) x D w.heap.size w3.heap.size G 0 (x.n 1) := by
    rw [hW]
    have ba := (Below.refl w3.heap.size w3).alloc (Nat.le_refl _) (Obj.cells x.cells 58)
    have hv4 := hv3.alloc (Obj.cells x.cells 58)
    have t4 := t3'.alloc (Obj.cells x.cells 58)
    have b4 := blk_below ba b3 (by omega)
    have c4 : blk (w3.alloc (Obj.cells x.cells 58)) w3.heap.size = some (.cells x.cells 58 (0, 0)) := blk_alloc_at _ _ _ rfl
    have s4 : (w3.alloc (Obj.cells x.cells 58)).heap.size = w3.heap.size + 1 := by simp
    generalize w3.alloc (Obj.cells x.cells 58) = W4 at *
    rw [← s4] at hG
    rw [hG]
    have bb := ((Below.refl W4.heap.size W4).alloc (Nat.le_refl _) (Obj.cells (bytesRow D C) 5 ((bytesRow D C).size, (bytesRow D C).size + 1))).drew
    refine ⟨(hv4.alloc _).drewN 1, (t4.alloc _).drew, blk_below bb b4 (by omega), ?_, ?_⟩
    · rw [consN_zero]; exact blk_below bb c4 (by omega)
    · intro j hj
      have hj2 : j < D.data.size := by simpa using hj
      show (W4.alloc (.cells (bytesRow D C) 5 ((bytesRow D C).size, (bytesRow D C).size + 1))).cell? ⟨W4.heap.size, j, none⟩ = _
      rw [World.cell?_alloc_mark, bytesRow_at D C j hj2]
      rfl
  have hB : w.heap.size ≤ w3.heap.size := t3'.size
  have hKB : w.heap.size ≠ w3.heap.size := by omega
  have hGB : G ≠ w3.heap.size := by omega
  clear hW hC hG b3 hv3 t3' s3 s1 hV
  generalize w3.heap.size = B at *
  generalize hK : w.heap.size = K at *
  go_loopw [17] (fun i wr => ∃ (j : Nat) (y : Int), j ≤ D.size ∧ i = .int .i64 (j : Int) ∧ SHN w wr L (st.saw 11 0) x D K B G j y) (fun i _ => D.size - (intOf i).toNat)
  case atStart => exact ⟨0, _, by omega, rfl, I0⟩
  case round =>
    clear I0
    obtain ⟨j, y, j1, rfl, H⟩ := hrel
    have j0 : (0 : Int) ≤ (j : Int) := by omega
    have d0 := cell_of_row _ _ 0 _ _ _ H.b
    have d1 := cell_of_row _ _ 1 _ _ _ H.b
    rw [cells_0, consN_n0] at d0
    rw [cells_1, consN_n1] at d1
    have f := frozen_blk H.b
    by_cases hlt : j < D.size
    · have l1 : (j : Int) < (D.size : Int) := by omega
      have r0 := H.r j (by simpa using hlt)
      go_wp2_with fail
      exact ⟨⟨j + 1, _, by omega, by go_num, H.next (by rw [hK]; exact lt) (by rw [hK]; exact hB) hKB hGB _⟩, by simp [intOf]; omega⟩
    · obtain rfl : j = D.size := by omega
      have k0 : wr.cell? ⟨K, 0, none⟩ = some (.int .i64 11) := cell_of_row _ _ 0 _ _ _ H.k
      have k1 : wr.cell? ⟨K, 1, none⟩ = some (.int .i64 0) := cell_of_row _ _ 1 _ _ _ H.k
      have hb := H.b
      go_wp2_with fail
      refine (vput_any L (st.saw 11 0) 11 0 (consN x D.size y) wr H.v).mono ?_; rintro e w5 ⟨rfl, hv5, t5⟩
      have tt := (H.t.mono (T := fun k => k = L.r ∨ k = L.m) fun _ _ => Or.inl).trans (t5.mono fun _ _ => Or.inr)
      clear d0 d1 f k0 k1 H
      go_wp2_with fail
      go_ret2
      exact ⟨rfl, y, hv5, tt⟩
set_option maxRecDepth 100000 in
set_option maxHeartbeats 4000000 in
/-- file.Read of the console. -/
theorem fread_dev (L : Lay) (st : VSt) (f n : Int) (hh : fHas st f = true) (hn : 0 < n) (hm : (bits .and .i64 ((st.get 6 f).n 4) 1 == 0) = false) (hk : (st.get 6 f).n 0 = 1) (hi : iHas (fs1 st f) ((st.get 6 f).n 2) = true)
    (ht : (iVal (iSaw (fs1 st f) ((st.get 6 f).n 2)) ((st.get 6 f).n 2)).n 0 = 3) (x : Val) (hx : st.get 11 0 = x) (R : ByteArray) (y : Int) (hR : (R = pTook x.s n ∧ y = 0 ∧ 0 < x.s.size) ∨ (R = ⟨#[]⟩ ∧ y = 2 ∧ x.s = ⟨#[]⟩)) (w : World) (hV : ViewAt w L st) :
    Calls Try.prog 12 #[.pointer (some ⟨L.v, 0, none⟩), .int .i64 f, .int .i64 n] w fun e w' => e = .returned (.tuple #[.string R, .int .i64 y]) ∧ ∃ st', ViewAt w' L st' ∧ (∀ k m, ¬(k = 11 ∧ m = 0) → st'.get k m = st.get k m) ∧ (∃ z, st'.get 11 0 = x.text z) ∧ Turn (fun k => k = L.r ∨ k = L.m) w w' := by
  have lt := hV.lts
  have hz := zero_val
  have hnd : decide (n < 0) = false := decide_eq_false (by omega)
  obtain ⟨s1, hs1⟩ : ∃ s1, s1 = fs1 st f := ⟨_, rfl⟩
  have g1 : ∀ k m, s1.get k m = st.get k m := fun k m => by rw [hs1, get_fs1]
  rw [← hs1] at hi ht
  have Hs := Lib.hid hs1
  have Hg := Lib.hid g1
  clear hs1 g1
  go_enter Try.func12, Try.ntmps12
  go_wp2_with fail
  refine (fis_any L st f w hV).mono ?_; rw [hh]; rintro e w1 ⟨rfl, hv1, t1⟩
  go_wp2_with fail
  refine (fkey_any f _).mono ?_; rintro e w2 ⟨rfl, t2⟩
  have hv2 := hv1.below t2
  have t2' := t1.trans (Turn.of_below t2 _)
  clear hv1 t1 t2
  go_wp2_with fail
  refine (vget_any L (fSaw st f) 6 f _ hv2).mono ?_; rw [fSaw_get]; rintro e w3 ⟨rfl, hv3, t3⟩
  have t3' := t2'.trans t3
  rw [show (fSaw st f).saw 6 f = s1 from Hs.out.symm] at hv3
  clear hv2 t2' t3 hh hV Hs
  generalize st.get 6 f = v at *
  go_upto_region 4 with fail
  have b3 : blk (w3.alloc (Obj.cells v.cells 58)) w3.heap.size = some (.cells v.cells 58 (0, 0)) := blk_alloc_at _ _ _ rfl
  have hv4 := hv3.alloc (Obj.cells v.cells 58)
  have t4 := t3'.alloc (Obj.cells v.cells 58)
  have q3 := t3'.size
  generalize w3.alloc (Obj.cells v.cells 58) = W4 at *
  generalize w3.heap.size = B at *
  clear hv3 t3'
  have c0 := cell_of_row _ _ 0 _ _ _ b3
  have c2 := cell_of_row _ _ 2 _ _ _ b3
  have c4 := cell_of_row _ _ 4 _ _ _ b3
  rw [cells_0, hk] at c0
  rw [cells_2] at c2
  rw [cells_4] at c4
  generalize hwh : v.n 2 = wh at *
  go_wp2_with fail
  refine (iis_any L s1 wh _ hv4).mono ?_; rw [hi]; rintro e w5 ⟨rfl, hv5, t5⟩
  have b5 : blk w5 B = some (.cells v.cells 58 (0, 0)) := blk_of_turn t5 b3 (by omega)
  have t5' := t4.trans t5
  clear c0 c2 c4 b3 hv4 t4 t5 hi
  have c2 := cell_of_row _ _ 2 _ _ _ b5
  rw [cells_2, hwh] at c2
  go_wp2_with fail
  refine (itype_any L (iSaw s1 wh) wh _ hv5).mono ?_; rw [ht]; rintro e w6 ⟨rfl, hv6, t6⟩
  have t6' := t5'.trans t6
  clear c2 b5 hv5 t5' t6 ht
  go_wp2_with fail
  have hx6 : (iSaw (iSaw s1 wh) wh).get 11 0 = x := by rw [get_iSaw, get_iSaw, Hg.out]; exact hx
  have hg6 : ∀ k m, (iSaw (iSaw s1 wh) wh).get k m = st.get k m := fun k m => by rw [get_iSaw, get_iSaw, Hg.out]
  have Hgg := Lib.hid hg6
  clear hg6 Hg hx
  generalize iSaw (iSaw s1 wh) wh = s6 at *
  rcases hR with ⟨rfl, rfl, h1⟩ | ⟨rfl, rfl, h1⟩
  · refine (typed_some L s6 n x hx6 hn h1 w6 hv6).mono ?_; rintro e w7 ⟨rfl, hv7, t7⟩
    go_wp2_with fail
    go_ret2
    refine ⟨rfl, _, hv7, fun k m hkm => ?_, ⟨_, get_put_same _ _ _ _ (by decide)⟩, (t6'.mono fun _ _ => Or.inl).trans t7⟩
    rw [get_put_other _ _ _ _ _ _ hkm, get_saw, Hgg.out]
  · refine (typed_none L s6 n x hx6 hn h1 w6 hv6).mono ?_; rintro e w7 ⟨rfl, hv7, t7⟩
    go_wp2_with fail
    go_ret2
    refine ⟨rfl, _, hv7, fun k m _ => ?_, ⟨x.s, ?_⟩, (t6'.mono fun _ _ => Or.inl).trans (t7.mono fun _ _ => Or.inl)⟩
    · rw [get_saw, Hgg.out]
    · rw [get_saw, hx6]; rfl
set_option maxRecDepth 100000 in
set_option maxHeartbeats 4000000 in
/-- file.Write to the console. -/
theorem fwrite_dev (L : Lay) (st : VSt) (f : Int) (D : ByteArray) (hh : fHas st f = true) (hm : (bits .and .i64 ((fGet st f).n 4) 2 == 0) = false) (hk : (fGet st f).n 0 = 1) (hi : iHas (fGot st f) ((fGet st f).n 2) = true)
    (ht : (iVal (iSaw (fGot st f) ((fGet st f).n 2)) ((fGet st f).n 2)).n 0 = 3) (x : Val) (hx : st.get 11 0 = x) (hd : D.size ≤ 1000) (w : World) (hV : ViewAt w L st) :
    Calls Try.prog 15 #[.pointer (some ⟨L.v, 0, none⟩), .int .i64 f, .string D] w fun e w' => e = .returned (.tuple #[.int .i64 D.size, .int .i64 0]) ∧ ∃ st', ViewAt w' L st' ∧ (∀ k m, ¬(k = 11 ∧ m = 0) → st'.get k m = st.get k m) ∧ (∃ y, st'.get 11 0 = consN x D.size y) ∧ Turn (fun k => k = L.r ∨ k = L.m) w w' := by
  have lt := hV.lts
  have hz := zero_val
  obtain ⟨s1, hs1⟩ : ∃ s1, s1 = fGot st f := ⟨_, rfl⟩
  have g1 : ∀ k m, s1.get k m = st.get k m := fun k m => by rw [hs1, get_fGot]
  rw [← hs1] at hi ht
  have Hs := Lib.hid hs1
  have Hg := Lib.hid g1
  clear hs1 g1
  go_enter Try.func15, Try.ntmps15
  go_wp2_with fail
  refine (fget_any L st f w hV).mono ?_; rw [hh]; rintro e w3 ⟨rfl, hv3, t3'⟩
  rw [← Hs.out] at hv3
  clear hh hV Hs
  generalize fGet st f = v at *
  go_upto_region 2 with fail
  have b3 : blk (w3.alloc (Obj.cells v.cells 58)) w3.heap.size = some (.cells v.cells 58 (0, 0)) := blk_alloc_at _ _ _ rfl
  have hv4 := hv3.alloc (Obj.cells v.cells 58)
  have t4 := t3'.alloc (Obj.cells v.cells 58)
  have q3 := t3'.size
  generalize w3.alloc (Obj.cells v.cells 58) = W4 at *
  generalize w3.heap.size = B at *
  clear hv3 t3'
  have c0 := cell_of_row _ _ 0 _ _ _ b3
  have c2 := cell_of_row _ _ 2 _ _ _ b3
  have c4 := cell_of_row _ _ 4 _ _ _ b3
  rw [cells_0, hk] at c0
  rw [cells_2] at c2
  rw [cells_4] at c4
  generalize hwh : v.n 2 = wh at *
  go_wp2_with fail
  refine (iis_any L s1 wh _ hv4).mono ?_; rw [hi]; rintro e w5 ⟨rfl, hv5, t5⟩
  have b5 : blk w5 B = some (.cells v.cells 58 (0, 0)) := blk_of_turn t5 b3 (by omega)
  have t5' := t4.trans t5
  clear c0 c2 c4 b3 hv4 t4 t5 hi
  have c2 := cell_of_row _ _ 2 _ _ _ b5
  rw [cells_2, hwh] at c2
  go_wp2_with fail
  refine (itype_any L (iSaw s1 wh) wh _ hv5).mono ?_; rw [ht]; rintro e w6 ⟨rfl, hv6, t6⟩
  have t6' := t5'.trans t6
  clear c2 b5 hv5 t5' t6 ht
  go_wp2_with fail
  have hx6 : (iSaw (iSaw s1 wh) wh).get 11 0 = x := by rw [get_iSaw, get_iSaw, Hg.out]; exact hx
  have hg6 : ∀ k m, (iSaw (iSaw s1 wh) wh).get k m = st.get k m := fun k m => by rw [get_iSaw, get_iSaw, Hg.out]
  have Hgg := Lib.hid hg6
  clear hg6 Hg hx
  generalize iSaw (iSaw s1 wh) wh = s6 at *
  refine (shown_any L s6 D x hx6 hd w6 hv6).mono ?_; rintro e w7 ⟨rfl, y, hv7, t7⟩
  go_wp2_with fail
  go_ret2
  refine ⟨rfl, _, hv7, fun k m hkm => ?_, ⟨y, get_put_same _ _ _ _ (by decide)⟩, (t6'.mono fun _ _ => Or.inl).trans t7⟩
  rw [get_put_other _ _ _ _ _ _ hkm, get_saw, Hgg.out]
end Go.Proofs.Ytdlcbclfniahoaa.St
