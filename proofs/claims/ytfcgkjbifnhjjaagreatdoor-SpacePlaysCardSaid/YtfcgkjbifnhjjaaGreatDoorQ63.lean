/- The contract of space.Grow. The contract of space.Shrink. No condition but those written in each statement. -/
import Derived.Test.YtfcgkjbifnhjjaaGreatDoorQ62
import Derived.Test.YtfcgkjbifnhjjaaGreatDoorShelf
import Derived.Deep.RegionHeld3
import Derived.Deep.DrawnRows
import Derived.Deep.Cut
import Derived.Laws.BytesString
import Derived.Laws.Cells
namespace Go.Proofs.YtfcgkjbifnhjjaaGreatDoor.St
open Go.RowKit
set_option linter.unusedVariables false

/-! ### Two reads into two fresh variables, in whatever order -/
theorem bt1 {W w8 : World} {r : Nat} {o : Obj} (t : Turn (· = r) (W.alloc o) w8) (h : r < W.heap.size) : blk w8 W.heap.size = some o :=
  blk_of_turn t (blk_alloc_at _ _ _ rfl) (fun q => by have q : W.heap.size = r := q; omega)
theorem bt2 {W w8 : World} {r : Nat} {o o' : Obj} (t : Turn (· = r) ((W.alloc o).alloc o') w8) (h : r < W.heap.size) : blk w8 W.heap.size = some o ∧ blk w8 (W.heap.size + 1) = some o' :=
  ⟨blk_of_turn t ((blk_alloc_past _ _ _ (by simp)).trans (blk_alloc_at _ _ _ rfl)) (fun q => by have q : W.heap.size = r := q; omega),
    blk_of_turn t (blk_alloc_at _ _ _ (by simp)) (fun q => by have q : W.heap.size + 1 = r := q; omega)⟩
theorem bt0 {W w8 : World} {r b : Nat} {o : Obj} (t : Turn (· = r) W w8) (c : blk W b = some o) (h : b ≠ r) : blk w8 b = some o := blk_of_turn t c h
theorem bt0a {W w8 : World} {r b : Nat} {o o' : Obj} (t : Turn (· = r) (W.alloc o') w8) (c : blk W b = some o) (h : b ≠ r) : blk w8 b = some o :=
  blk_of_turn t ((blk_alloc_past _ _ _ (blk_lt c)).trans c) h
theorem bsr {W : World} {b : Nat} {c cs : Array Value} {t : TypeId} {fz : Nat × Nat} (h : blk W b = some (.cells c t fz)) : blk (W.setRow b cs) b = some (.cells cs t fz) := setRow_heap _ _ _ _ _ _ h
theorem Turn.offR {a w w' : World} {r : Nat} (h : Turn (· = r) a w) (hT : Turn (fun k => k = r ∨ w.heap.size ≤ k) w w') : Turn (· = r) a w' :=
  ⟨hT.os.trans h.os, hT.tape.trans h.tape, hT.output.trans h.output, Nat.le_trans h.size hT.size, fun i hi hn => (hT.block i (Nat.lt_of_lt_of_le hi h.size) (fun q => by
    have := h.size
    rcases q with q | q
    · exact hn q
    · omega)).trans (h.block i hi hn)⟩
theorem kc_turn {W3 W : World} {L : Lay} {B : Nat} {p : Int} (q1 : blk W3 B = some (.cells #[.int .i64 4, .int .i64 p] 57 (0, 0))) (q2 : blk W3 (B + 1) = some (.cells #[.int .i64 12, .int .i64 p] 57 (0, 0)))
    (n1 : B ≠ L.r) (n2 : B + 1 ≠ L.r) (T : Turn (fun k => k = L.r ∨ W3.heap.size ≤ k) W3 W) :
    Turn (fun k => k = L.r ∨ W3.heap.size ≤ k) W3 W ∧ W.cell? ⟨B, 0, none⟩ = some (.int .i64 4) ∧ W.cell? ⟨B, 1, none⟩ = some (.int .i64 p) ∧ W.cell? ⟨B + 1, 0, none⟩ = some (.int .i64 12) ∧ W.cell? ⟨B + 1, 1, none⟩ = some (.int .i64 p) := by
  have l1 := blk_lt q1
  have l2 := blk_lt q2
  have a1 := key_cells (blk_of_turn T q1 (by omega))
  have a2 := key_cells (blk_of_turn T q2 (by omega))
  exact ⟨T, a1.1, a1.2, a2.1, a2.2⟩
theorem ViewAt.setRow {W : World} {L : Lay} {st : VSt} (h : ViewAt W L st) {b B : Nat} (lt : L.v < B ∧ L.s < B ∧ L.l < B ∧ L.r < B ∧ L.m < B) (hb : B ≤ b) (cs : Array Value) : ViewAt (W.setRow b cs) L st :=
  h.off (B := B) ((Turn.refl _ _).setRow (Or.inl hb) cs) lt

/-! ### What Grow makes -/
/-- The pool's free pages behind so many taken; a process's pages with so many more. -/
def gN (a : Int) : Nat → Int
  | 0 => a
  | j + 1 => unmarkN (gN a j) (tz64 (IntKind.u64.wrap (gN a j))).toNat
def gC (a : Int) (j : Nat) : ByteArray := ⟨#[UInt8.ofNat (tz64 (IntKind.u64.wrap (gN a j))).toNat]⟩
def gS (a : Int) (s : ByteArray) : Nat → ByteArray
  | 0 => s
  | j + 1 => gS a s j ++ gC a j
theorem gS_size (a : Int) (s : ByteArray) (j : Nat) : (gS a s j).size = s.size + j := by
  induction j with
  | zero => rfl
  | succ j ih => unfold gS; rw [ByteArray.size_append, ih]; rfl
/-- So many noughts. -/
def noughts (c : Nat) : ByteArray := ⟨(Lib.repeatL [(0 : UInt8)] c).toArray⟩
theorem noughts_size (c : Nat) : (noughts c).size = c := by
  unfold noughts
  show (Lib.repeatL [(0 : UInt8)] c).toArray.size = c
  simp [Lib.repeatL_length]
def grOk (st : VSt) (p n : Int) : Bool := !decide (6 - ((st.get 4 p).s.size : Int) < n) && !decide (ones64 (IntKind.u64.wrap ((st.get 2 0).n 0)) < n)
def grX (st : VSt) (p n : Int) : Val := (st.get 4 p).text (gS ((st.get 2 0).n 0) (st.get 4 p).s n.toNat)
def grM (st : VSt) (p n : Int) : Val := (st.get 12 p).text ((st.get 12 p).s ++ noughts (n * 16).toNat)
def grY (st : VSt) (n : Int) : Val := (st.get 2 0).set 0 (gN ((st.get 2 0).n 0) n.toNat)
def saw2 (st : VSt) (p : Int) : VSt := ((qSaw st p).saw 4 p).saw 12 p
/-- The view behind it, of a process that is there and no number below nought. -/
def grEnd (st : VSt) (p n : Int) : VSt :=
  if 6 - ((st.get 4 p).s.size : Int) < n then saw2 st p else if ones64 (IntKind.u64.wrap ((st.get 2 0).n 0)) < n then (saw2 st p).saw 2 0
  else (((((saw2 st p).saw 2 0).saw 2 0).put 4 p (grX st p n)).put 12 p (grM st p n)).put 2 0 (grY st n)
theorem get_saw2 (st : VSt) (p k j : Int) : (saw2 st p).get k j = st.get k j := by unfold saw2; rw [get_saw, get_saw, get_qSaw]

/-- What the loop over the new pages holds. -/
structure GWL (w W : World) (L : Lay) (st : VSt) (x m y : Val) (X M Y : Nat) (j : Nat) : Prop where
  v : ViewAt W L st
  t : Turn (· = L.r) w W
  bx : blk W X = some (.cells (x.text (gS (y.n 0) x.s j)).cells 60 (0, 0))
  bm : blk W M = some (.cells m.cells 60 (0, 0))
  bb : blk W Y = some (.cells (y.set 0 (gN (y.n 0) j)).cells 60 (0, 0))
theorem text_set (x : Val) (s s' : ByteArray) : (x.text s).cells.setIfInBounds 16 (.string s') = (x.text s').cells := rfl
theorem set_set (y : Val) (a b : Int) : (y.set 0 a).cells.setIfInBounds 0 (.int .i64 b) = (y.set 0 b).cells := rfl
theorem GWL.step {w W : World} {L : Lay} {st : VSt} {x m y : Val} {X M Y j : Nat} (H : GWL w W L st x m y X M Y j) (lt : L.v < w.heap.size ∧ L.s < w.heap.size ∧ L.l < w.heap.size ∧ L.r < w.heap.size ∧ L.m < w.heap.size)
    (hX : w.heap.size ≤ X) (hM : w.heap.size ≤ M) (hY : w.heap.size ≤ Y) (n1 : X ≠ M) (n2 : X ≠ Y) (n3 : M ≠ Y) (o : Obj) :
    GWL w (((W.setCell ⟨Y, 0, none⟩ (.int .i64 (gN (y.n 0) (j + 1)))).setCell ⟨X, 16, none⟩ (.string (gS (y.n 0) x.s (j + 1)))).alloc o) L st x m y X M Y (j + 1) := by
  have tl : Turn (fun k => w.heap.size ≤ k) W (((W.setCell ⟨Y, 0, none⟩ (.int .i64 (gN (y.n 0) (j + 1)))).setCell ⟨X, 16, none⟩ (.string (gS (y.n 0) x.s (j + 1)))).alloc o) :=
    (((Turn.refl _ _).setCell (p := ⟨Y, 0, none⟩) (Or.inl hY) _).setCell (p := ⟨X, 16, none⟩) (Or.inl hX) _).alloc o
  have lX := blk_lt H.bx
  have lM := blk_lt H.bm
  have lY := blk_lt H.bb
  have e1 : ((W.setCell ⟨Y, 0, none⟩ (.int .i64 (gN (y.n 0) (j + 1)))).setCell ⟨X, 16, none⟩ (.string (gS (y.n 0) x.s (j + 1)))).heap.size = W.heap.size := by simp
  refine ⟨H.v.off tl lt, H.t.offS tl (Nat.le_refl _), ?_, ?_, ?_⟩
  · have h := blk_setCell_same ((blk_setCell_other W ⟨Y, 0, none⟩ (.int .i64 (gN (y.n 0) (j + 1))) X n2).trans H.bx) 16 (.string (gS (y.n 0) x.s (j + 1)))
    rw [text_set] at h
    exact (blk_alloc_past _ _ _ (by omega)).trans h
  · exact (blk_alloc_past _ _ M (by omega)).trans ((blk_setCell_other _ _ _ M (Ne.symm n1)).trans ((blk_setCell_other _ _ _ M n3).trans H.bm))
  · have h := blk_setCell_same H.bb 0 (.int .i64 (gN (y.n 0) (j + 1)))
    rw [set_set] at h
    exact (blk_alloc_past _ _ Y (by omega)).trans ((blk_setCell_other _ _ _ Y (Ne.symm n2)).trans h)
theorem tz_nat (a : Int) : ∃ u : Nat, tz64 a = (u : Int) ∧ (0 : Int) ≤ (u : Int) ∧ (u : Int) < 64 := by
  have h1 := dbN_bounds a
  have h2 := db_bounds (dbN a).toNat (by omega)
  change 0 ≤ tz64 a ∧ tz64 a < 64 at h2
  exact ⟨(tz64 a).toNat, (Int.toNat_of_nonneg h2.1).symm, Int.natCast_nonneg _, by rw [Int.toNat_of_nonneg h2.1]; exact h2.2⟩
theorem bx_ne {w : World} {L : Lay} {st : VSt} (h : Bx w) (hV : ViewAt w L st) : ¬ (0 = L.r) := by
  intro q
  obtain ⟨_, _, hr, _⟩ := hV.cr
  have c := h 0 (by decide)
  unfold World.cell? at c
  simp only [] at c
  rw [q, hr] at c
  simp at c
theorem run_byte (v : Int) (W : World) : (convert 73 9 (.slice (some ⟨W.heap.size, 0, none⟩) 1 1)).run Tryz.prog (W.alloc (.cells #[.int .u8 v] 5)) = .ok (.string ⟨#[UInt8.ofNat v.toNat]⟩) (W.alloc (.cells #[.int .u8 v] 5)) := by
  rw [run_convert_bytes_string _ 73 9 5 _ _ _ Tryz.underlying73 Tryz.underlying5 Tryz.underlying9]
  have := run_loadCells_list (P := Tryz.prog) (w := W.alloc (.cells #[.int .u8 v] 5)) ⟨W.heap.size, 0, none⟩ [Value.int .u8 v] (by
    intro j u hj
    match j, hj with
    | 0, hj => simp at hj; subst hj; simp [Addr.add])
  exact run_bytesToString _ ⟨W.heap.size, 0, none⟩ 1 1 [v] this

attribute [local go_sem] blk_alloc_at blk_alloc_past blk_drew blk_drewN blk_setB_same blk_setB_other blk_setRow_other setRow_alloc_at setRow_alloc_past setRow_drewN setRow_drew setB_size setB_cell setB_frozen setB_alloc_past setB_drewN setB_drew run_loadV loadOr_cells run_storeV storeOr_cells cells_size ones_cells cells_0 cells_1 cells_2 cells_16
attribute [local go_sem ↓] execOp_loadV execOp_storeV
attribute [local go_sem ↓] wp_at0 wp_at1 wp_at2 wp_at3 wp_at4 wp_at5 wp_at6 wp_at7 wp_at8 wp_at9
attribute [local irreducible] Int.lt Int.le
set_option maxRecDepth 100000 in
set_option maxHeartbeats 4000000 in
theorem sgrow_any (L : Lay) (st : VSt) (p : Int) (N : Nat) (h : (qState st p == 0) = false) (x m y : Val) (hx : st.get 4 p = x) (hm : st.get 12 p = m) (hy : st.get 2 0 = y) (hs : (x.s.size : Int) ≤ 1000) (hms : (m.s.size : Int) ≤ 1000) (hN : (N : Int) ≤ 9223372036854775807)
    (hnz : (N : Int) ≤ ones64 (IntKind.u64.wrap (y.n 0)) → ∀ i : Nat, i < N → (IntKind.u64.wrap (gN (y.n 0) i) == 0) = false) (w : World) (hV : ViewAt w L st) (hB : Bx w) :
    Calls Tryz.prog 6 #[.pointer (some ⟨L.v, 0, none⟩), .int .i64 p, .int .i64 (N : Int)] w fun e w' => e = .returned (.bool (grOk st p N)) ∧ ViewAt w' L (grEnd st p N) ∧ Turn (fun k => k = L.r ∨ k = L.m) w w' := by
  have lt := hV.lts
  have hz := zero_val
  have HBx := Lib.hid hB
  have HBn := Lib.hid (bx_ne hB hV)
  clear hB
  obtain ⟨q, hq⟩ : ∃ q, q = qState st p := ⟨_, rfl⟩
  rw [← hq] at h
  obtain ⟨ok, hok⟩ : ∃ ok, ok = grOk st p (N : Int) := ⟨_, rfl⟩
  rw [← hok]
  obtain ⟨en, hen⟩ : ∃ en, en = grEnd st p (N : Int) := ⟨_, rfl⟩
  rw [← hen]
  unfold grOk at hok
  unfold grEnd grX grM grY at hen
  rw [hx, hy] at hok
  rw [hx, hy, hm] at hen
  have Hok := Lib.hid hok
  have Hen := Lib.hid hen
  clear hok hen
  have Hq := Lib.hid hq
  have Hx := Lib.hid hx
  have Hm := Lib.hid hm
  have Hy := Lib.hid hy
  have n0 : (0 : Int) ≤ (N : Int) := Int.natCast_nonneg N
  have hn : decide ((N : Int) < 0) = false := decide_eq_false (by omega)
  obtain ⟨n, hnN⟩ : ∃ n : Int, n = (N : Int) := ⟨_, rfl⟩
  have Hn := Lib.hid hnN
  clear hnN
  rw [← Hn.out] at hn hN n0 ⊢
  have Hnz := Lib.hid hnz
  clear hq hx hm hy hnz
  go_enter Tryz.func6, Tryz.ntmps6
  go_wp2_with fail
  refine (qstate_any L st p w hV).mono ?_; rw [← Hq.out]; rintro e w1 ⟨rfl, hv1, t1⟩
  clear hV Hq
  go_wp2_with fail
  refine (skeys_any p _).mono ?_; rintro e w2 ⟨rfl, t2⟩
  have v2 := hv1.below t2
  have tt2 := t1.trans (Turn.of_below t2 _)
  clear hv1 t1 t2
  have v3 := (v2.alloc (Obj.cells #[.int .i64 4, .int .i64 p] 57)).alloc (Obj.cells #[.int .i64 12, .int .i64 p] 57)
  have t3 := (tt2.alloc (Obj.cells #[.int .i64 4, .int .i64 p] 57)).alloc (Obj.cells #[.int .i64 12, .int .i64 p] 57)
  have sk1 : (w2.alloc (Obj.cells #[.int .i64 4, .int .i64 p] 57)).heap.size = w2.heap.size + 1 := by simp
  have bb2 := (Below.refl (w2.alloc (Obj.cells #[.int .i64 4, .int .i64 p] 57)).heap.size (w2.alloc (Obj.cells #[.int .i64 4, .int .i64 p] 57))).alloc (Nat.le_refl _) (Obj.cells #[.int .i64 12, .int .i64 p] 57)
  have q1 : blk ((w2.alloc (Obj.cells #[.int .i64 4, .int .i64 p] 57)).alloc (Obj.cells #[.int .i64 12, .int .i64 p] 57)) w2.heap.size = some (.cells #[.int .i64 4, .int .i64 p] 57 (0, 0)) := blk_below bb2 (blk_alloc_at _ _ _ rfl) (by omega)
  have q2 : blk ((w2.alloc (Obj.cells #[.int .i64 4, .int .i64 p] 57)).alloc (Obj.cells #[.int .i64 12, .int .i64 p] 57)) (w2.heap.size + 1) = some (.cells #[.int .i64 12, .int .i64 p] 57 (0, 0)) := blk_alloc_at _ _ _ sk1.symm
  have z2 := tt2.size
  go_upto_region 4 with fail
  clear v2 tt2 bb2 sk1
  generalize ((w2.alloc (Obj.cells #[.int .i64 4, .int .i64 p] 57)).alloc (Obj.cells #[.int .i64 12, .int .i64 p] 57)) = W3 at *
  have q1d : blk W3.drew w2.heap.size = some (.cells #[.int .i64 4, .int .i64 p] 57 (0, 0)) := (blk_drew _ _).trans q1
  have q2d : blk W3.drew (w2.heap.size + 1) = some (.cells #[.int .i64 12, .int .i64 p] 57 (0, 0)) := (blk_drew _ _).trans q2
  have v3d : ViewAt W3.drew L (qSaw st p) := v3.drewN 1
  have t3d := t3.drew
  clear q1 q2 v3 t3
  have z3 : w2.heap.size + 1 < W3.drew.heap.size := blk_lt q2d
  go_cut [9, 10] from 26 (fun s9 s10 wx => ∃ X M : Nat, s9 = .pointer (some ⟨X, 0, none⟩) ∧ s10 = .pointer (some ⟨M, 0, none⟩) ∧ X ≠ M ∧ blk wx X = some (.cells x.cells 60 (0, 0)) ∧ blk wx M = some (.cells m.cells 60 (0, 0)) ∧ ViewAt wx L (((qSaw st p).saw 4 p).saw 12 p) ∧ Turn (· = L.r) w wx ∧ w.heap.size ≤ X ∧ w.heap.size ≤ M)
  case first =>
    have hg1 : (qSaw st p).get 4 p = x := (get_qSaw _ _ _ _).trans Hx.out
    have hg2 : ((qSaw st p).saw 4 p).get 12 p = m := by rw [get_saw, get_qSaw]; exact Hm.out
    have ztt := t3d.size
    have ltB : L.v < W3.drew.heap.size ∧ L.s < W3.drew.heap.size ∧ L.l < W3.drew.heap.size ∧ L.r < W3.drew.heap.size ∧ L.m < W3.drew.heap.size := by omega
    have nB1 : w2.heap.size ≠ L.r := by omega
    have nB2 : w2.heap.size + 1 ≠ L.r := by omega
    have kcs := fun W => kc_turn (W := W) q1d q2d nB1 nB2
    have T3 : Turn (fun k => k = L.r ∨ W3.drew.heap.size ≤ k) W3.drew W3.drew := Turn.refl _ _
    have lr := ltB.2.2.2.1
    have nX : W3.heap.size ≠ L.r := Ne.symm (Nat.ne_of_lt lr)
    have nX1 : W3.heap.size + 1 ≠ L.r := Ne.symm (Nat.ne_of_lt (Nat.lt_succ_of_lt lr))
    have HN := Lib.hid hn
    have HH := Lib.hid h
    have HS := Lib.hid hs
    have HLT := Lib.hid lt
    have HLB := Lib.hid ltB
    clear q1d q2d Hx Hm hn h hs lt ltB
    go_region_held3 (fun W => Turn (fun k => k = L.r ∨ W3.drew.heap.size ≤ k) W3.drew W ∧ W.cell? ⟨w2.heap.size, 0, none⟩ = some (.int .i64 4) ∧ W.cell? ⟨w2.heap.size, 1, none⟩ = some (.int .i64 p) ∧ W.cell? ⟨w2.heap.size + 1, 0, none⟩ = some (.int .i64 12) ∧ W.cell? ⟨w2.heap.size + 1, 1, none⟩ = some (.int .i64 p))
      (first | assumption | (exact kcs _ (Turn.alloc (Turn.alloc T3 (Obj.cells Val.zero.cells 60)) (Obj.cells Val.zero.cells 60))) | (exact kcs _ (Turn.alloc T3 (Obj.cells Val.zero.cells 60))) | (refine kcs _ ?_; repeat (first | assumption | (refine Turn.alloc ?_ _) | (refine Turn.setRow ?_ (Or.inr (by show W3.heap.size ≤ _; first | omega | (have : W3.heap.size ≤ w8.heap.size := T8.size; omega) | (have : W3.heap.size ≤ w9.heap.size := T9.size; omega))) _))))
      (first
        | (go_at_call 30; refine (vget_any L (qSaw st p) _ _ _ (by first | assumption | exact ViewAt.alloc v3d (Obj.cells Val.zero.cells 60) | exact ViewAt.alloc (ViewAt.alloc v3d (Obj.cells Val.zero.cells 60)) (Obj.cells Val.zero.cells 60))).mono ?_; rw [hg1]; rintro e w8 ⟨rfl, v8, t8⟩; have z8 := t8.size; have T8 : Turn (fun k => k = L.r ∨ W3.drew.heap.size ≤ k) W3.drew w8 := Turn.trans (And.left (by assumption)) (t8.mono fun _ _ => Or.inl); first | (have C := bt2 (W := W3.drew) (o := (Obj.cells Val.zero.cells 60)) (o' := (Obj.cells Val.zero.cells 60)) t8 lr; have c1 : blk w8 W3.heap.size = some (Obj.cells Val.zero.cells 60) := C.1; have c2 : blk w8 (W3.heap.size + 1) = some (Obj.cells Val.zero.cells 60) := C.2; clear C) | (have c1 : blk w8 W3.heap.size = some (Obj.cells Val.zero.cells 60) := bt1 (W := W3.drew) (o := (Obj.cells Val.zero.cells 60)) t8 lr) | skip)
        | (go_at_call 30; refine (vget_any L ((qSaw st p).saw 4 p) _ _ _ (by first | assumption | exact ViewAt.alloc (by assumption) _ | exact ViewAt.alloc (ViewAt.alloc (by assumption) _) _)).mono ?_; rw [hg2]; rintro e w9 ⟨rfl, v9, t9⟩; have z9 := t9.size; have T9 : Turn (fun k => k = L.r ∨ W3.drew.heap.size ≤ k) W3.drew w9 := Turn.trans (And.left (by assumption)) (t9.mono fun _ _ => Or.inl); first | (have d1 := (bt2 t9 (by have : L.r < W3.heap.size := lr; have : W3.heap.size ≤ w8.heap.size := T8.size; omega)).1; have d2 := (bt2 t9 (by have : L.r < W3.heap.size := lr; have : W3.heap.size ≤ w8.heap.size := T8.size; omega)).2; have e1 := blk_lt d1; have e2 := blk_lt d2; have f1 := Nat.ne_of_lt e1; have f2 := Nat.ne_of_lt e2) | (have d1 := bt1 t9 (by have : L.r < W3.heap.size := lr; have : W3.heap.size ≤ w8.heap.size := T8.size; omega); have d2 := bt0a t9 c1 nX; have e1 := blk_lt d1; have e2 := blk_lt d2; have e3 := blk_lt c1; have f1 := Nat.ne_of_lt e1; have f2 := Nat.ne_of_lt e2; have f3 := Nat.ne_of_lt e3; have f4 := Nat.ne_of_gt e1; have f5 := Nat.ne_of_gt e2; have f6 := Nat.ne_of_gt e3) | (have d1 := bt1 t9 (by have : L.r < W3.heap.size := lr; have : W3.heap.size ≤ w8.heap.size := T8.size; omega); have e1 := blk_lt d1; have f1 := Nat.ne_of_lt e1; have f4 := Nat.ne_of_gt e1) | (have d1 := bt0 t9 c1 nX; have d2 := bt0 t9 c2 nX1; have e1 := blk_lt d1; have e2 := blk_lt d2; have f1 := Nat.ne_of_lt e1; have f2 := Nat.ne_of_lt e2; have f4 := Nat.ne_of_gt e1; have f5 := Nat.ne_of_gt e2) | (have d1 := bt0 t9 c1 nX; have e1 := blk_lt d1; have f1 := Nat.ne_of_lt e1; have f4 := Nat.ne_of_gt e1) | skip))
    all_goals
      have a1 : W3.heap.size ≤ w8.heap.size := T8.size
      have a2 : W3.heap.size ≤ w9.heap.size := T9.size
      have a3 : w.heap.size ≤ W3.heap.size := ztt
      have z9' : w8.heap.size ≤ w9.heap.size := Nat.le_trans (by first | exact Nat.le_refl _ | (simp; done) | (simp; omega)) z9
      have tt := t3d.offR (And.left (by assumption))
      clear kcs T3 v3d t3d v8 T8 T9
      go_wp2_with fail
      go_meet
      case rel =>
        refine ⟨_, _, rfl, rfl, ?_, ?_, ?_, ?_, tt, ?_, ?_⟩
        · omega
        · repeat (first | assumption | exact blk_alloc_at _ _ _ (by simp) | exact bsr (by assumption) | (refine (blk_alloc_past _ _ _ (by first | omega | (simp; done) | (simp; omega))).trans ?_) | (refine (blk_setRow_other _ _ _ _ (by omega)).trans ?_))
        · repeat (first | assumption | exact blk_alloc_at _ _ _ (by simp) | exact bsr (by assumption) | exact bsr ((blk_setRow_other _ _ _ _ (by omega)).trans (by assumption)) | (refine (blk_alloc_past _ _ _ (by first | omega | (simp; done) | (simp; omega))).trans ?_) | (refine (blk_setRow_other _ _ _ _ (by omega)).trans ?_))
        · repeat (first | assumption | (refine ViewAt.alloc ?_ _) | (refine ViewAt.setRow ?_ HLB.out (by show W3.heap.size ≤ _; omega) _))
        · omega
        · omega
  case rest =>
    clear q1d q2d v3d t3d z3 z2
    obtain ⟨X, M, rfl, rfl, hXM, bX, bM, vc, tc, zX, zM⟩ := hcut
    rw [show ((qSaw st p).saw 4 p).saw 12 p = saw2 st p from rfl] at vc
    have c16 : wc.cell? ⟨X, 16, none⟩ = some (.string x.s) := by rw [cell_of_row _ _ 16 _ _ _ bX]; exact cells_16 x
    have hy2 : (saw2 st p).get 2 0 = y := (get_saw2 _ _ _ _).trans Hy.out
    have Hy2 := Lib.hid hy2
    clear hy2
    obtain ⟨f, hf⟩ : ∃ f : Int, f = ones64 (IntKind.u64.wrap (y.n 0)) := ⟨_, rfl⟩
    have Hf := Lib.hid hf
    clear hf
    have hc : decide (6 - (x.s.size : Int) < n) = true ∨ (decide (6 - (x.s.size : Int) < n) = false ∧ decide (f < n) = true) ∨ (decide (6 - (x.s.size : Int) < n) = false ∧ decide (f < n) = false) := by
      by_cases h1 : 6 - (x.s.size : Int) < n
      · exact Or.inl (decide_eq_true h1)
      · by_cases h2 : f < n
        · exact Or.inr (Or.inl ⟨decide_eq_false h1, decide_eq_true h2⟩)
        · exact Or.inr (Or.inr ⟨decide_eq_false h1, decide_eq_false h2⟩)
    rcases hc with hc | ⟨hc, hc2⟩ | ⟨hc, hc2⟩
    · have H1 : ok = false ∧ en = saw2 st p := by
        refine ⟨by rw [Hok.out, ← Hn.out, hc]; rfl, ?_⟩
        rw [Hen.out, ← Hn.out, if_pos (of_decide_eq_true hc)]
      obtain ⟨rfl, rfl⟩ := H1
      go_wp2_with fail
      go_ret
      exact ⟨rfl, vc, tc.mono fun _ _ => Or.inl⟩
    · have H1 : ok = false ∧ en = (saw2 st p).saw 2 0 := by
        rw [Hf.out] at hc2
        refine ⟨by rw [Hok.out, ← Hn.out, hc2]; simp, ?_⟩
        rw [Hen.out, ← Hn.out, if_neg (of_decide_eq_false hc), if_pos (of_decide_eq_true hc2)]
      obtain ⟨rfl, rfl⟩ := H1
      go_wp2_with fail
      refine (sfree_any L (saw2 st p) _ vc).mono ?_; rw [Hy2.out, ← Hf.out]; rintro e w5 ⟨rfl, v5, t5⟩
      go_wp2_with fail
      go_ret
      exact ⟨rfl, v5, (tc.trans t5).mono fun _ _ => Or.inl⟩
    · have hN' : n ≤ 1000 := by have := of_decide_eq_false hc; omega
      clear hN
      have hN := hN'
      clear hN'
      have H1 : ok = true ∧ en = (((((saw2 st p).saw 2 0).saw 2 0).put 4 p (x.text (gS (y.n 0) x.s N))).put 12 p (m.text (m.s ++ noughts (n * 16).toNat))).put 2 0 (y.set 0 (gN (y.n 0) N)) := by
        rw [Hf.out] at hc2
        refine ⟨by rw [Hok.out, ← Hn.out, hc2, hc]; rfl, ?_⟩
        rw [Hen.out, ← Hn.out, if_neg (of_decide_eq_false hc), if_neg (of_decide_eq_false hc2), Hn.out]
        rfl
      obtain ⟨rfl, Hen2⟩ := H1
      have Hen2 := Lib.hid Hen2
      clear Hok Hen
      go_wp2_with fail
      refine (sfree_any L (saw2 st p) _ vc).mono ?_; rw [Hy2.out, ← Hf.out]; rintro e w5 ⟨rfl, v5, t5⟩
      have bX5 := blk_of_turn t5 bX (show ¬ (_ = L.r) by omega)
      have bM5 := blk_of_turn t5 bM (show ¬ (_ = L.r) by omega)
      have tt5 := tc.trans t5
      clear vc bX bM c16 tc t5
      go_wp2_with fail
      refine (spool_any _).mono ?_; rintro e w6 ⟨rfl, t6⟩
      have v6 := v5.below t6
      have bX6 := blk_below t6 bX5 (blk_lt bX5)
      have bM6 := blk_below t6 bM5 (blk_lt bM5)
      have tt6 := tt5.trans (Turn.of_below t6 _)
      clear v5 bX5 bM5 t6 tt5
      go_wp2_with fail
      have hy3 : ((saw2 st p).saw 2 0).get 2 0 = y := (get_saw _ _ _ _ _).trans Hy2.out
      refine (vget_any L _ 2 0 _ v6).mono ?_; rw [hy3]; rintro e w7 ⟨rfl, v7, t7⟩
      clear hy3
      have bX7 := blk_of_turn t7 bX6 (show ¬ (_ = L.r) by omega)
      have bM7 := blk_of_turn t7 bM6 (show ¬ (_ = L.r) by omega)
      have tt7 := tt6.trans t7
      clear v6 bX6 bM6 t7 tt6
      have lX := blk_lt bX7
      have lM := blk_lt bM7
      have I0 : GWL w (w7.alloc (Obj.cells y.cells 60)) L (((saw2 st p).saw 2 0).saw 2 0) x m y X M w7.heap.size 0 :=
        ⟨v7.alloc _, tt7.alloc _, (blk_alloc_past _ _ _ lX).trans bX7, (blk_alloc_past _ _ _ lM).trans bM7, by rw [show y.set 0 (gN (y.n 0) 0) = y by unfold gN Val.set; congr 1; funext j; split <;> simp_all]; exact blk_alloc_at _ _ _ rfl⟩
      have zY := tt7.size
      go_upto_region 8 with fail
      clear v7 bX7 bM7 tt7
      have nXY : X ≠ w7.heap.size := by omega
      have nMY : M ≠ w7.heap.size := by omega
      generalize (w7.alloc (Obj.cells y.cells 60)) = W7 at *
      generalize w7.heap.size = Y at *
      have HXM := Lib.hid hXM
      have HLT := Lib.hid lt
      have HC := Lib.hid hc
      have HC2 := Lib.hid hc2
      clear lX lM hXM lt hc hc2
      go_wp2_with fail
      go_loopw [48] (fun i wr => ∃ j : Nat, j ≤ N ∧ i = .int .i64 (j : Int) ∧ GWL w wr L (((saw2 st p).saw 2 0).saw 2 0) x m y X M Y j) (fun i _ => N - (intOf i).toNat)
      case atStart => exact ⟨0, by omega, rfl, I0⟩
      case round =>
        clear I0
        obtain ⟨j, hj, rfl, H⟩ := hrel
        have j0 : (0 : Int) ≤ (j : Int) := by omega
        by_cases hlt : j < N
        · have l1 : (j : Int) < n := by rw [Hn.out]; omega
          have d0 := cell_of_row _ _ 0 _ _ _ H.bb
          rw [cells_0, set_n_same] at d0
          have d16 := cell_of_row _ _ 16 _ _ _ H.bx
          rw [cells_16, show (x.text (gS (y.n 0) x.s j)).s = gS (y.n 0) x.s j from rfl] at d16
          have f1 := frozen_blk H.bb
          have f2 := frozen_blk H.bx
          have lX := blk_lt H.bx
          have lY := blk_lt H.bb
          have B1 := HBx.out.turn H.t HBn.out
          have h0 := Hnz.out (by have q := of_decide_eq_false HC2.out; rw [← Hf.out, ← Hn.out]; omega) j hlt
          have hsz := gS_size (y.n 0) x.s j
          have ST := fun o => Lib.hid (H.step HLT.out zX zM zY HXM.out nXY nMY o)
          have hs1 : ((gS (y.n 0) x.s j).size : Int) ≤ 2000 := by rw [hsz]; omega
          have hs0 : (0 : Int) ≤ ((gS (y.n 0) x.s j).size : Int) := by omega
          have e1 : gN (y.n 0) (j + 1) = unmarkN (gN (y.n 0) j) (tz64 (IntKind.u64.wrap (gN (y.n 0) j))).toNat := rfl
          have e2 : gS (y.n 0) x.s (j + 1) = gS (y.n 0) x.s j ++ gC (y.n 0) j := rfl
          have e3 : gC (y.n 0) j = ⟨#[UInt8.ofNat (tz64 (IntKind.u64.wrap (gN (y.n 0) j))).toNat]⟩ := rfl
          have TZ := fun W q => tz_any (IntKind.u64.wrap (gN (y.n 0) j)) h0 W q
          obtain ⟨u, hu, u0, u1⟩ := tz_nat (IntKind.u64.wrap (gN (y.n 0) j))
          rw [hu] at e1 e3 TZ
          rw [Int.toNat_natCast] at e1 e3
          have E2 := Lib.hid e2
          have E1 := Lib.hid e1
          have E3 := Lib.hid e3
          clear H h0 hsz e1 e2 e3 hu
          generalize gN (y.n 0) (j + 1) = a' at *
          generalize gS (y.n 0) x.s (j + 1) = s' at *
          generalize gN (y.n 0) j = a at *
          generalize gS (y.n 0) x.s j = s at *
          generalize gC (y.n 0) j = c at *
          go_wp2_with fail
          refine (TZ _ B1).mono ?_; rintro e w9 ⟨rfl, rfl⟩
          have CV : ∀ (W : World) (n : Nat), n = W.heap.size → (convert 73 9 (.slice (some ⟨n, 0, none⟩) 1 1)).run Tryz.prog (W.alloc (.cells #[.int .u8 (u : Int)] 5)) = .ok (.string c) (W.alloc (.cells #[.int .u8 (u : Int)] 5)) := by
            rintro W n rfl
            rw [E3.out]
            exact run_byte (u : Int) W
          have c0 : (0 : Int) ≤ (c.size : Int) := Int.natCast_nonneg _
          have c1 : (c.size : Int) ≤ 1 := by rw [E3.out]; exact Int.le_refl _
          go_wp2_with fail
          rw [unmarkN_def, ← E1.out, ← E2.out]
          exact ⟨⟨j + 1, by omega, by go_num, (ST _).out⟩, by simp [intOf]; omega⟩
        · obtain rfl : j = N := by omega
          have bX := H.bx
          have bM := H.bm
          have bY := H.bb
          have hv := H.v
          have ht := H.t
          have l1 : ¬ (j : Int) < n := by rw [Hn.out]; omega
          clear H
          go_upto_region 14 with fail
          obtain ⟨z, hz0⟩ : ∃ z, z = noughts (n * 16).toNat := ⟨_, rfl⟩
          have RP : ∀ W : World, Calls Tryz.prog 34 #[.string ⟨#[0]⟩, .int .i64 (IntKind.i64.wrap (n * 16))] W fun e w' => e = .returned (.string z) ∧ Below W.heap.size W w' := by
            intro W
            rw [show IntKind.i64.wrap (n * 16) = n * 16 by rw [wrap_i64]; unfold wrap64; omega]
            have hc : n * 16 = ((n * 16).toNat : Int) := (Int.toNat_of_nonneg (by omega)).symm
            have := Tryz.strings_Repeat ⟨#[0]⟩ (n * 16).toNat W (by omega) (by show 1 * (n * 16).toNat ≤ _; omega)
            rw [← hc] at this
            rw [hz0]; exact this
          have zs : (z.size : Int) ≤ 16000 := by rw [hz0, noughts_size]; omega
          have zs0 : (0 : Int) ≤ (z.size : Int) := Int.natCast_nonneg _
          have ms0 : (0 : Int) ≤ (m.s.size : Int) := Int.natCast_nonneg _
          have HEN := Lib.hid (Hen2.out.trans (by rw [← hz0]))
          clear hz0 Hen2
          have HT := Lib.hid ht
          have HZ := Lib.hid hz
          have bXd : blk wr.drew X = _ := (blk_drew _ _).trans bX
          have bMd : blk wr.drew M = _ := (blk_drew _ _).trans bM
          have bYd : blk wr.drew Y = _ := (blk_drew _ _).trans bY
          have vd := hv.drew
          have cM := cell_of_row _ _ 16 _ _ _ bMd
          rw [cells_16] at cM
          have lX := blk_lt bXd
          have lM := blk_lt bMd
          have lY := blk_lt bYd
          have td := ht.drew
          clear bX bM bY hv ht hz
          go_region_with (first
              | (go_at_call 34; refine (RP _).mono ?_; rintro e w8 ⟨rfl, t8⟩; have c8 := (t8.cell (p := ⟨M, 16, none⟩) lM).trans cM; have f8 := frozen_blk (blk_below t8 bMd lM) 16))
          all_goals
            have bX8 : blk (w8.setCell ⟨M, 16, none⟩ (.string (m.s ++ z))) X = _ := (blk_setCell_other _ _ _ _ HXM.out).trans (blk_below t8 bXd lX)
            have bY8 : blk (w8.setCell ⟨M, 16, none⟩ (.string (m.s ++ z))) Y = _ := (blk_setCell_other _ _ _ _ (Ne.symm nMY)).trans (blk_below t8 bYd lY)
            have bM8 := blk_setCell_same (blk_below t8 bMd lM) 16 (.string (m.s ++ z))
            rw [cells_text] at bM8
            have tl : Turn (fun k => w.heap.size ≤ k) w8 (w8.setCell ⟨M, 16, none⟩ (.string (m.s ++ z))) := (Turn.refl _ _).setCell (p := ⟨M, 16, none⟩) (Or.inl zM) _
            have v8 := (vd.below t8).off tl HLT.out
            have tt8 := (td.trans (Turn.of_below t8 _)).offS tl (Nat.le_refl _)
            clear bXd bYd bMd cM c8 f8 tl vd td HT
            generalize w8.setCell ⟨M, 16, none⟩ (.string (m.s ++ z)) = W9 at *
            have hz := HZ.out
            go_wp2_with fail
            refine (sputp_any L _ p _ _ _ _ v8).mono ?_; rintro e w9 ⟨rfl, v9, t9⟩
            go_wp2_with fail
            go_ret
            exact ⟨rfl, by rw [HEN.out]; exact v9, (tt8.mono fun _ _ => Or.inl).trans (t9.mono fun _ _ => Or.inr)⟩
end Go.Proofs.YtfcgkjbifnhjjaaGreatDoor.St

namespace Go.Proofs.YtfcgkjbifnhjjaaGreatDoor.St
open Go.RowKit
set_option linter.unusedVariables false

/-! ### What Shrink makes -/
def shOk (st : VSt) (p n : Int) : Bool := !decide (((st.get 4 p).s.size : Int) - n < 0)
/-- The pages that go. -/
def tailS (s : ByteArray) (n : Int) : ByteArray := s.extract ((s.size : Int) - n).toNat s.size
def headS (s : ByteArray) (k : Int) : ByteArray := s.extract 0 k.toNat
def shL (st : VSt) (p n : Int) : List Int := pgL (tailS (st.get 4 p).s n).data.toList
def shX (st : VSt) (p n : Int) : Val := (st.get 4 p).text (headS (st.get 4 p).s (((st.get 4 p).s.size : Int) - n))
def shM (st : VSt) (p n : Int) : Val := (st.get 12 p).text (headS (st.get 12 p).s (min ((st.get 12 p).s.size : Int) ((((st.get 4 p).s.size : Int) - n) * 16)))
def shY (a : Int) (l : List Int) : Int := l.foldl (fun a g => markI a g.toNat) a
theorem shY_snoc (a : Int) (l : List Int) (g : Int) : shY a (l ++ [g]) = markI (shY a l) g.toNat := by unfold shY; rw [List.foldl_append]; rfl
def shEnd (st : VSt) (p n : Int) : VSt :=
  if ((st.get 4 p).s.size : Int) - n < 0 then saw2 st p
  else ((((saw2 st p).saw 2 0).put 4 p (shX st p n)).put 12 p (shM st p n)).put 2 0 ((st.get 2 0).set 1 (shY ((st.get 2 0).n 1) (shL st p n)))
theorem set1_set1 (y : Val) (a b : Int) : (y.set 1 a).cells.setIfInBounds 1 (.int .i64 b) = (y.set 1 b).cells := rfl
theorem IL.cell {B : Nat} {W : World} {v : Value} {ps : List Int} (h : IL B W v ps) : ∃ a cap, v = .slice a ps.length cap ∧ ∀ i (hi : i < ps.length), ∃ x, a = some x ∧ B ≤ x.block ∧ (x.add i).block = x.block ∧ W.cell? (x.add i) = some (.int .i64 ps[i]) := by
  rcases h.2 with ⟨q, q0⟩ | ⟨g, cap, cur, h1, h2, h3, h4, h5, h6, h7⟩
  · exact ⟨none, 0, by rw [q, q0], fun i hi => by omega⟩
  · refine ⟨_, cap, h1, fun i hi => ⟨_, rfl, h2, by unfold Addr.add; split <;> rfl, ?_⟩⟩
    have e : (⟨g, 0, none⟩ : Addr).add i = ⟨g, i, none⟩ := by unfold Addr.add; split <;> simp_all
    rw [e]
    unfold World.cell?
    simp only []
    rw [h3]
    have : (cur.toList.take (ps.length * 1))[i]? = some (.int .i64 ps[i]) := by rw [h7, List.getElem?_map, List.getElem?_eq_getElem hi]; rfl
    rw [List.getElem?_take_of_lt (by omega)] at this
    simpa using this
def ShRes (ok : Bool) (B : Nat) (W : World) (v : Value) (ps : List Int) : Prop := (ok = true → IL B W v ps) ∧ (ok = false → v = .slice none 0 0)
theorem IL.turnM {B : Nat} {W W' : World} {v : Value} {ps : List Int} {L : Lay} {st : VSt} (h : IL B W v ps) (hV : ViewAt W L st) (t : Turn (· = L.m) W W') : IL B W' v ps := by
  refine ⟨h.1, ?_⟩
  rcases h.2 with q | ⟨g, cap, cur, h1, h2, h3, h4⟩
  · exact Or.inl q
  · obtain ⟨_, _, hm, _⟩ := hV.cm
    exact Or.inr ⟨g, cap, cur, h1, h2, blk_of_turn t h3 (cells_ne_map h3 hm), h4⟩
/-- What the loop over the pages that go holds. -/
structure SHL (w W : World) (L : Lay) (st : VSt) (x m y : Val) (X M Y B : Nat) (v : Value) (ps : List Int) (j : Nat) : Prop where
  vw : ViewAt W L st
  t : Turn (· = L.r) w W
  bx : blk W X = some (.cells x.cells 60 (0, 0))
  bm : blk W M = some (.cells m.cells 60 (0, 0))
  bb : blk W Y = some (.cells (y.set 1 (shY (y.n 1) (ps.take j))).cells 60 (0, 0))
  il : IL B W v ps
theorem SHL.step {w W : World} {L : Lay} {st : VSt} {x m y : Val} {X M Y B : Nat} {v : Value} {ps : List Int} {j : Nat} (H : SHL w W L st x m y X M Y B v ps j) (lt : L.v < w.heap.size ∧ L.s < w.heap.size ∧ L.l < w.heap.size ∧ L.r < w.heap.size ∧ L.m < w.heap.size)
    (hY : w.heap.size ≤ Y) (n2 : X ≠ Y) (n3 : M ≠ Y) (hB : Y < B) (hj : j < ps.length) :
    SHL w (W.setCell ⟨Y, 1, none⟩ (.int .i64 (markI (shY (y.n 1) (ps.take j)) ps[j].toNat))) L st x m y X M Y B v ps (j + 1) := by
  have tl : Turn (fun k => w.heap.size ≤ k) W (W.setCell ⟨Y, 1, none⟩ (.int .i64 (markI (shY (y.n 1) (ps.take j)) ps[j].toNat))) :=
    (Turn.refl _ _).setCell (p := ⟨Y, 1, none⟩) (Or.inl hY) _
  refine ⟨H.vw.off tl lt, H.t.offS tl (Nat.le_refl _), (blk_setCell_other _ _ _ X n2).trans H.bx, (blk_setCell_other _ _ _ M n3).trans H.bm, ?_, H.il.keep fun g hg _ => ?_⟩
  · have h := blk_setCell_same H.bb 1 (.int .i64 (markI (shY (y.n 1) (ps.take j)) ps[j].toNat))
    rw [set1_set1] at h
    rw [h, List.take_succ_eq_append_getElem hj, shY_snoc]
  · exact blk_setCell_other W ⟨Y, 1, none⟩ _ g (by show g ≠ Y; omega)

attribute [local go_sem] blk_alloc_at blk_alloc_past blk_drew blk_drewN blk_setB_same blk_setB_other blk_setRow_other setRow_alloc_at setRow_alloc_past setRow_drewN setRow_drew setB_size setB_cell setB_frozen setB_alloc_past setB_drewN setB_drew run_loadV loadOr_cells run_storeV storeOr_cells cells_size ones_cells cells_0 cells_1 cells_2 cells_16
attribute [local go_sem ↓] execOp_loadV execOp_storeV
attribute [local go_sem ↓] wp_at0 wp_at1 wp_at2 wp_at3 wp_at4 wp_at5 wp_at6 wp_at7 wp_at8 wp_at9
attribute [local irreducible] Int.lt Int.le
set_option maxRecDepth 100000 in
set_option maxHeartbeats 4000000 in
theorem sshrink_any (L : Lay) (st : VSt) (p : Int) (n : Int) (h : (qState st p == 0) = false) (x m y : Val) (hx : st.get 4 p = x) (hm : st.get 12 p = m) (hy : st.get 2 0 = y) (hs : (x.s.size : Int) ≤ 1000) (hms : (m.s.size : Int) ≤ 1000) (n0 : 0 ≤ n) (hN : n ≤ 9223372036854775807)
    (w : World) (hV : ViewAt w L st) :
    Calls Tryz.prog 8 #[.pointer (some ⟨L.v, 0, none⟩), .int .i64 p, .int .i64 n] w fun e w' => ∃ v, e = .returned (.tuple #[v, .bool (shOk st p n)]) ∧ ShRes (shOk st p n) w.heap.size w' v (shL st p n) ∧ ViewAt w' L (shEnd st p n) ∧ Turn (fun k => k = L.r ∨ k = L.m) w w' := by
  have lt := hV.lts
  have hz := zero_val
  obtain ⟨q, hq⟩ : ∃ q, q = qState st p := ⟨_, rfl⟩
  rw [← hq] at h
  obtain ⟨ok, hok⟩ : ∃ ok, ok = shOk st p n := ⟨_, rfl⟩
  rw [← hok]
  obtain ⟨ps, hps⟩ : ∃ ps, ps = shL st p n := ⟨_, rfl⟩
  obtain ⟨en, hen⟩ : ∃ en, en = shEnd st p n := ⟨_, rfl⟩
  rw [← hen, ← hps]
  unfold shOk at hok
  unfold shEnd shX shM at hen
  rw [← hps] at hen
  unfold shL at hps
  rw [hx] at hok hps
  rw [hx, hy, hm] at hen
  have Hok := Lib.hid hok
  have Hen := Lib.hid hen
  have Hps := Lib.hid hps
  clear hok hen hps
  have Hq := Lib.hid hq
  have Hx := Lib.hid hx
  have Hm := Lib.hid hm
  have Hy := Lib.hid hy
  have hn : decide (n < 0) = false := decide_eq_false (by omega)
  clear hq hx hm hy
  go_enter Tryz.func8, Tryz.ntmps8
  go_wp2_with fail
  refine (qstate_any L st p w hV).mono ?_; rw [← Hq.out]; rintro e w1 ⟨rfl, hv1, t1⟩
  clear hV Hq
  go_wp2_with fail
  refine (skeys_any p _).mono ?_; rintro e w2 ⟨rfl, t2⟩
  have v2 := hv1.below t2
  have tt2 := t1.trans (Turn.of_below t2 _)
  clear hv1 t1 t2
  have v3 := (v2.alloc (Obj.cells #[.int .i64 4, .int .i64 p] 57)).alloc (Obj.cells #[.int .i64 12, .int .i64 p] 57)
  have t3 := (tt2.alloc (Obj.cells #[.int .i64 4, .int .i64 p] 57)).alloc (Obj.cells #[.int .i64 12, .int .i64 p] 57)
  have sk1 : (w2.alloc (Obj.cells #[.int .i64 4, .int .i64 p] 57)).heap.size = w2.heap.size + 1 := by simp
  have bb2 := (Below.refl (w2.alloc (Obj.cells #[.int .i64 4, .int .i64 p] 57)).heap.size (w2.alloc (Obj.cells #[.int .i64 4, .int .i64 p] 57))).alloc (Nat.le_refl _) (Obj.cells #[.int .i64 12, .int .i64 p] 57)
  have q1 : blk ((w2.alloc (Obj.cells #[.int .i64 4, .int .i64 p] 57)).alloc (Obj.cells #[.int .i64 12, .int .i64 p] 57)) w2.heap.size = some (.cells #[.int .i64 4, .int .i64 p] 57 (0, 0)) := blk_below bb2 (blk_alloc_at _ _ _ rfl) (by omega)
  have q2 : blk ((w2.alloc (Obj.cells #[.int .i64 4, .int .i64 p] 57)).alloc (Obj.cells #[.int .i64 12, .int .i64 p] 57)) (w2.heap.size + 1) = some (.cells #[.int .i64 12, .int .i64 p] 57 (0, 0)) := blk_alloc_at _ _ _ sk1.symm
  have z2 := tt2.size
  go_upto_region 4 with fail
  clear v2 tt2 bb2 sk1
  generalize ((w2.alloc (Obj.cells #[.int .i64 4, .int .i64 p] 57)).alloc (Obj.cells #[.int .i64 12, .int .i64 p] 57)) = W3 at *
  have q1d : blk W3.drew w2.heap.size = some (.cells #[.int .i64 4, .int .i64 p] 57 (0, 0)) := (blk_drew _ _).trans q1
  have q2d : blk W3.drew (w2.heap.size + 1) = some (.cells #[.int .i64 12, .int .i64 p] 57 (0, 0)) := (blk_drew _ _).trans q2
  have v3d : ViewAt W3.drew L (qSaw st p) := v3.drewN 1
  have t3d := t3.drew
  clear q1 q2 v3 t3
  have z3 : w2.heap.size + 1 < W3.drew.heap.size := blk_lt q2d
  go_cut [10, 11] from 30 (fun s9 s10 wx => ∃ X M : Nat, s9 = .pointer (some ⟨X, 0, none⟩) ∧ s10 = .pointer (some ⟨M, 0, none⟩) ∧ X ≠ M ∧ blk wx X = some (.cells x.cells 60 (0, 0)) ∧ blk wx M = some (.cells m.cells 60 (0, 0)) ∧ ViewAt wx L (((qSaw st p).saw 4 p).saw 12 p) ∧ Turn (· = L.r) w wx ∧ w.heap.size ≤ X ∧ w.heap.size ≤ M)
  case first =>
    have hg1 : (qSaw st p).get 4 p = x := (get_qSaw _ _ _ _).trans Hx.out
    have hg2 : ((qSaw st p).saw 4 p).get 12 p = m := by rw [get_saw, get_qSaw]; exact Hm.out
    have ztt := t3d.size
    have ltB : L.v < W3.drew.heap.size ∧ L.s < W3.drew.heap.size ∧ L.l < W3.drew.heap.size ∧ L.r < W3.drew.heap.size ∧ L.m < W3.drew.heap.size := by omega
    have nB1 : w2.heap.size ≠ L.r := by omega
    have nB2 : w2.heap.size + 1 ≠ L.r := by omega
    have kcs := fun W => kc_turn (W := W) q1d q2d nB1 nB2
    have T3 : Turn (fun k => k = L.r ∨ W3.drew.heap.size ≤ k) W3.drew W3.drew := Turn.refl _ _
    have lr := ltB.2.2.2.1
    have nX : W3.heap.size ≠ L.r := Ne.symm (Nat.ne_of_lt lr)
    have nX1 : W3.heap.size + 1 ≠ L.r := Ne.symm (Nat.ne_of_lt (Nat.lt_succ_of_lt lr))
    have HN := Lib.hid hn
    have HH := Lib.hid h
    have HS := Lib.hid hs
    have HLT := Lib.hid lt
    have HLB := Lib.hid ltB
    clear q1d q2d Hx Hm hn h hs lt ltB
    go_region_held3 (fun W => Turn (fun k => k = L.r ∨ W3.drew.heap.size ≤ k) W3.drew W ∧ W.cell? ⟨w2.heap.size, 0, none⟩ = some (.int .i64 4) ∧ W.cell? ⟨w2.heap.size, 1, none⟩ = some (.int .i64 p) ∧ W.cell? ⟨w2.heap.size + 1, 0, none⟩ = some (.int .i64 12) ∧ W.cell? ⟨w2.heap.size + 1, 1, none⟩ = some (.int .i64 p))
      (first | assumption | (exact kcs _ (Turn.alloc (Turn.alloc T3 (Obj.cells Val.zero.cells 60)) (Obj.cells Val.zero.cells 60))) | (exact kcs _ (Turn.alloc T3 (Obj.cells Val.zero.cells 60))) | (refine kcs _ ?_; repeat (first | assumption | (refine Turn.alloc ?_ _) | (refine Turn.setRow ?_ (Or.inr (by show W3.heap.size ≤ _; first | omega | (have : W3.heap.size ≤ w8.heap.size := T8.size; omega) | (have : W3.heap.size ≤ w9.heap.size := T9.size; omega))) _))))
      (first
        | (go_at_call 30; refine (vget_any L (qSaw st p) _ _ _ (by first | assumption | exact ViewAt.alloc v3d (Obj.cells Val.zero.cells 60) | exact ViewAt.alloc (ViewAt.alloc v3d (Obj.cells Val.zero.cells 60)) (Obj.cells Val.zero.cells 60))).mono ?_; rw [hg1]; rintro e w8 ⟨rfl, v8, t8⟩; have z8 := t8.size; have T8 : Turn (fun k => k = L.r ∨ W3.drew.heap.size ≤ k) W3.drew w8 := Turn.trans (And.left (by assumption)) (t8.mono fun _ _ => Or.inl); first | (have C := bt2 (W := W3.drew) (o := (Obj.cells Val.zero.cells 60)) (o' := (Obj.cells Val.zero.cells 60)) t8 lr; have c1 : blk w8 W3.heap.size = some (Obj.cells Val.zero.cells 60) := C.1; have c2 : blk w8 (W3.heap.size + 1) = some (Obj.cells Val.zero.cells 60) := C.2; clear C) | (have c1 : blk w8 W3.heap.size = some (Obj.cells Val.zero.cells 60) := bt1 (W := W3.drew) (o := (Obj.cells Val.zero.cells 60)) t8 lr) | skip)
        | (go_at_call 30; refine (vget_any L ((qSaw st p).saw 4 p) _ _ _ (by first | assumption | exact ViewAt.alloc (by assumption) _ | exact ViewAt.alloc (ViewAt.alloc (by assumption) _) _)).mono ?_; rw [hg2]; rintro e w9 ⟨rfl, v9, t9⟩; have z9 := t9.size; have T9 : Turn (fun k => k = L.r ∨ W3.drew.heap.size ≤ k) W3.drew w9 := Turn.trans (And.left (by assumption)) (t9.mono fun _ _ => Or.inl); first | (have d1 := (bt2 t9 (by have : L.r < W3.heap.size := lr; have : W3.heap.size ≤ w8.heap.size := T8.size; omega)).1; have d2 := (bt2 t9 (by have : L.r < W3.heap.size := lr; have : W3.heap.size ≤ w8.heap.size := T8.size; omega)).2; have e1 := blk_lt d1; have e2 := blk_lt d2; have f1 := Nat.ne_of_lt e1; have f2 := Nat.ne_of_lt e2) | (have d1 := bt1 t9 (by have : L.r < W3.heap.size := lr; have : W3.heap.size ≤ w8.heap.size := T8.size; omega); have d2 := bt0a t9 c1 nX; have e1 := blk_lt d1; have e2 := blk_lt d2; have e3 := blk_lt c1; have f1 := Nat.ne_of_lt e1; have f2 := Nat.ne_of_lt e2; have f3 := Nat.ne_of_lt e3; have f4 := Nat.ne_of_gt e1; have f5 := Nat.ne_of_gt e2; have f6 := Nat.ne_of_gt e3) | (have d1 := bt1 t9 (by have : L.r < W3.heap.size := lr; have : W3.heap.size ≤ w8.heap.size := T8.size; omega); have e1 := blk_lt d1; have f1 := Nat.ne_of_lt e1; have f4 := Nat.ne_of_gt e1) | (have d1 := bt0 t9 c1 nX; have d2 := bt0 t9 c2 nX1; have e1 := blk_lt d1; have e2 := blk_lt d2; have f1 := Nat.ne_of_lt e1; have f2 := Nat.ne_of_lt e2; have f4 := Nat.ne_of_gt e1; have f5 := Nat.ne_of_gt e2) | (have d1 := bt0 t9 c1 nX; have e1 := blk_lt d1; have f1 := Nat.ne_of_lt e1; have f4 := Nat.ne_of_gt e1) | skip))
    all_goals
      have a1 : W3.heap.size ≤ w8.heap.size := T8.size
      have a2 : W3.heap.size ≤ w9.heap.size := T9.size
      have a3 : w.heap.size ≤ W3.heap.size := ztt
      have z9' : w8.heap.size ≤ w9.heap.size := Nat.le_trans (by first | exact Nat.le_refl _ | (simp; done) | (simp; omega)) z9
      have tt := t3d.offR (And.left (by assumption))
      clear kcs T3 v3d t3d v8 T8 T9
      go_wp2_with fail
      go_meet
      case rel =>
        refine ⟨_, _, rfl, rfl, ?_, ?_, ?_, ?_, tt, ?_, ?_⟩
        · omega
        · repeat (first | assumption | exact blk_alloc_at _ _ _ (by simp) | exact bsr (by assumption) | (refine (blk_alloc_past _ _ _ (by first | omega | (simp; done) | (simp; omega))).trans ?_) | (refine (blk_setRow_other _ _ _ _ (by omega)).trans ?_))
        · repeat (first | assumption | exact blk_alloc_at _ _ _ (by simp) | exact bsr (by assumption) | exact bsr ((blk_setRow_other _ _ _ _ (by omega)).trans (by assumption)) | (refine (blk_alloc_past _ _ _ (by first | omega | (simp; done) | (simp; omega))).trans ?_) | (refine (blk_setRow_other _ _ _ _ (by omega)).trans ?_))
        · repeat (first | assumption | (refine ViewAt.alloc ?_ _) | (refine ViewAt.setRow ?_ HLB.out (by show W3.heap.size ≤ _; omega) _))
        · omega
        · omega
  case rest =>
    clear q1d q2d v3d t3d z3 z2
    obtain ⟨X, M, rfl, rfl, hXM, bX, bM, vc, tc, zX, zM⟩ := hcut
    rw [show ((qSaw st p).saw 4 p).saw 12 p = saw2 st p from rfl] at vc
    have c16 : wc.cell? ⟨X, 16, none⟩ = some (.string x.s) := by rw [cell_of_row _ _ 16 _ _ _ bX]; exact cells_16 x
    have hy2 : (saw2 st p).get 2 0 = y := (get_saw2 _ _ _ _).trans Hy.out
    have Hy2 := Lib.hid hy2
    clear hy2
    obtain ⟨f, hf⟩ : ∃ f : Int, f = (x.s.size : Int) - n := ⟨_, rfl⟩
    have Hf := Lib.hid hf
    have f1 : f ≤ (x.s.size : Int) := by omega
    have hxs : (0 : Int) ≤ (x.s.size : Int) := Int.natCast_nonneg _
    have wf : IntKind.i64.wrap ((x.s.size : Int) - n) = f := by rw [wrap_i64, ← hf]; unfold wrap64; omega
    clear hf
    have hc : decide (f < 0) = true ∨ decide (f < 0) = false := by cases decide (f < 0) <;> simp
    rcases hc with hc | hc
    · have H1 : ok = false ∧ en = saw2 st p := by
        have hc' := of_decide_eq_true hc
        rw [Hf.out] at hc'
        refine ⟨by rw [Hok.out, decide_eq_true hc']; rfl, ?_⟩
        rw [Hen.out, if_pos hc']
      obtain ⟨rfl, rfl⟩ := H1
      go_wp2_with fail
      go_ret2
      exact ⟨_, rfl, ⟨(fun q => by cases q), fun _ => rfl⟩, vc, tc.mono fun _ _ => Or.inl⟩
    · have H1 : ok = true ∧ en = ((((saw2 st p).saw 2 0).put 4 p (x.text (headS x.s f))).put 12 p (m.text (headS m.s (min (m.s.size : Int) (f * 16))))).put 2 0 (y.set 1 (shY (y.n 1) ps)) := by
        have hc' := of_decide_eq_false hc
        rw [Hf.out] at hc'
        refine ⟨by rw [Hok.out, decide_eq_false hc']; rfl, ?_⟩
        rw [Hen.out, if_neg hc', Hf.out]
      obtain ⟨rfl, Hen2⟩ := H1
      have Hen2 := Lib.hid Hen2
      have f0 : (0 : Int) ≤ f := by have := of_decide_eq_false hc; omega
      clear Hok Hen
      go_wp2_with fail
      refine (spool_any _).mono ?_; rintro e w6 ⟨rfl, t6⟩
      have v6 := vc.below t6
      have bX6 := blk_below t6 bX (blk_lt bX)
      have bM6 := blk_below t6 bM (blk_lt bM)
      have tt6 := tc.trans (Turn.of_below t6 _)
      clear vc bX bM t6 tc c16
      go_wp2_with fail
      refine (vget_any L _ 2 0 _ v6).mono ?_; rw [Hy2.out]; rintro e w7 ⟨rfl, v7, t7⟩
      have bX7 := blk_of_turn t7 bX6 (show ¬ (_ = L.r) by omega)
      have bM7 := blk_of_turn t7 bM6 (show ¬ (_ = L.r) by omega)
      have tt7 := tt6.trans t7
      clear v6 bX6 bM6 t7 tt6
      have lX := blk_lt bX7
      have lM := blk_lt bM7
      have nXY : X ≠ w7.heap.size := by omega
      have nMY : M ≠ w7.heap.size := by omega
      have zY := tt7.size
      go_upto_region 9 with fail
      have v8 := v7.alloc (Obj.cells y.cells 60)
      have t8 := tt7.alloc (Obj.cells y.cells 60)
      have bX8 := (blk_alloc_past w7 (Obj.cells y.cells 60) _ lX).trans bX7
      have bM8 := (blk_alloc_past w7 (Obj.cells y.cells 60) _ lM).trans bM7
      have bY8 := blk_alloc_at w7 (Obj.cells y.cells 60) _ rfl
      have lY8 := blk_lt bY8
      have lX8 := blk_lt bX8
      have lM8 := blk_lt bM8
      generalize (w7.alloc (Obj.cells y.cells 60)) = W8 at *
      generalize w7.heap.size = Y at *
      clear v7 tt7 bX7 bM7 lX lM
      have c16 : W8.cell? ⟨X, 16, none⟩ = some (.string x.s) := by rw [cell_of_row _ _ 16 _ _ _ bX8]; exact cells_16 x
      go_wp2_with fail
      have htl : (x.s.extract f.toNat x.s.size).size ≤ 1000 := by rw [ByteArray.size_extract]; omega
      refine (pages_any (x.s.extract f.toNat x.s.size) htl _).mono ?_; rintro e w9 ⟨v, rfl, own, t9⟩
      have e9 : pgL (x.s.extract f.toNat x.s.size).data.toList = ps := by rw [Hps.out]; unfold tailS; rw [← Hf.out]
      rw [e9] at own
      have v9 := v8.below t9
      have bX9 := blk_below t9 bX8 (blk_lt bX8)
      have bM9 := blk_below t9 bM8 (blk_lt bM8)
      have bY9 := blk_below t9 bY8 (blk_lt bY8)
      have tt9 := t8.trans (Turn.of_below t9 _)
      have zB := t8.size
      have hpl : ps.length ≤ 1000 := by rw [← e9]; unfold pgL; rw [List.length_map, show (x.s.extract f.toNat x.s.size).data.toList.length = (x.s.extract f.toNat x.s.size).size by simp]; exact htl
      have hrange : ∀ g ∈ ps, 0 ≤ g ∧ g < 64 := by
        intro g hg
        rw [← e9] at hg
        obtain ⟨b, _, rfl⟩ := List.mem_map.1 hg
        omega
      clear v8 t8 bX8 bM8 bY8 t9 c16 e9 htl
      generalize W8.heap.size = B at *
      have I0 : SHL w w9 L ((saw2 st p).saw 2 0) x m y X M Y B v ps 0 := ⟨v9, tt9, bX9, bM9, by rw [show y.set 1 (shY (y.n 1) (ps.take 0)) = y by unfold shY Val.set; congr 1; funext j; simp; intro e; rw [e]]; exact bY9, own⟩
      obtain ⟨a, cap, rfl, _⟩ := own.cell
      clear v9 tt9 bX9 bM9 bY9 own
      have HXM := Lib.hid hXM
      have HLT := Lib.hid lt
      have HC := Lib.hid hc
      have HR := Lib.hid hrange
      clear hXM lt hc hrange wf
      go_wp2_with fail
      go_loopw [53] (fun i wr => ∃ j : Nat, j ≤ ps.length ∧ i = .int .i64 (j : Int) ∧ SHL w wr L ((saw2 st p).saw 2 0) x m y X M Y B (.slice a ps.length cap) ps j) (fun i _ => ps.length - (intOf i).toNat)
      case atStart => exact ⟨0, by omega, rfl, I0⟩
      case round =>
        clear I0
        obtain ⟨j, hj, rfl, H⟩ := hrel
        have j0 : (0 : Int) ≤ (j : Int) := by omega
        by_cases hlt : j < ps.length
        · have l1 : (j : Int) < (ps.length : Int) := by omega
          have d1 := cell_of_row _ _ 1 _ _ _ H.bb
          rw [cells_1, set_n_same] at d1
          have f1 := frozen_blk H.bb
          obtain ⟨a', cap', ee, hcell⟩ := H.il.cell
          obtain ⟨rfl, rfl⟩ : a = a' ∧ cap = cap' := by cases ee; exact ⟨rfl, rfl⟩
          obtain ⟨x0, rfl, _, _, hc0⟩ := hcell j hlt
          have ST := Lib.hid (H.step HLT.out zY nXY nMY lY8 hlt)
          obtain ⟨g0, g1⟩ := HR.out ps[j] (List.getElem_mem hlt)
          clear H ee hcell
          generalize ps[j] = g at *
          obtain ⟨u, rfl⟩ := Int.eq_ofNat_of_zero_le g0
          rw [Int.toNat_natCast] at ST
          generalize shY (y.n 1) (ps.take j) = b at *
          go_wp2_with fail
          rw [markI_def]
          exact ⟨⟨j + 1, by omega, by go_num, ST.out⟩, by simp [intOf]; omega⟩
        · obtain rfl : j = ps.length := by omega
          have bX := H.bx
          have bM := H.bm
          have bY := H.bb
          rw [List.take_length] at bY
          have hv := H.vw
          have ht := H.t
          have hil := H.il
          clear H
          have cX := cell_of_row _ _ 16 _ _ _ bX
          rw [cells_16] at cX
          have cM := cell_of_row _ _ 16 _ _ _ bM
          rw [cells_16] at cM
          have fX := frozen_blk bX
          have fM := frozen_blk bM
          have l1 : ¬ (ps.length : Int) < (ps.length : Int) := by omega
          have w16 : IntKind.i64.wrap (f * 16) = f * 16 := by rw [wrap_i64]; unfold wrap64; omega
          have hMX := Ne.symm HXM.out
          have hXM := HXM.out
          have hmin : 0 ≤ min (m.s.size : Int) (f * 16) ∧ min (m.s.size : Int) (f * 16) ≤ (m.s.size : Int) := by omega
          go_upto_region 17 with fail
          have HEN := Lib.hid (Hen2.out.trans (by unfold headS; rfl) : en = ((((saw2 st p).saw 2 0).put 4 p (x.text (x.s.extract 0 f.toNat))).put 12 p (m.text (m.s.extract 0 (min (m.s.size : Int) (f * 16)).toNat))).put 2 0 (y.set 1 (shY (y.n 1) ps)))
          clear Hen2
          generalize x.s.extract 0 f.toNat = s1 at *
          generalize m.s.extract 0 (min (m.s.size : Int) (f * 16)).toNat = s2 at *
          have tl : Turn (fun k => w.heap.size ≤ k) wr ((wr.setCell ⟨X, 16, none⟩ (.string s1)).setCell ⟨M, 16, none⟩ (.string s2)) := ((Turn.refl _ _).setCell (p := ⟨X, 16, none⟩) (Or.inl zX) _).setCell (p := ⟨M, 16, none⟩) (Or.inl zM) _
          have bX1 := blk_setCell_same bX 16 (.string s1)
          rw [cells_text] at bX1
          have bX2 : blk ((wr.setCell ⟨X, 16, none⟩ (.string s1)).setCell ⟨M, 16, none⟩ (.string s2)) X = _ := (blk_setCell_other _ _ _ _ hXM).trans bX1
          have bM2 : blk ((wr.setCell ⟨X, 16, none⟩ (.string s1)).setCell ⟨M, 16, none⟩ (.string s2)) M = _ := blk_setCell_same ((blk_setCell_other wr ⟨X, 16, none⟩ (.string s1) _ hMX).trans bM) 16 (.string s2)
          rw [cells_text] at bM2
          have bY2 : blk ((wr.setCell ⟨X, 16, none⟩ (.string s1)).setCell ⟨M, 16, none⟩ (.string s2)) Y = _ := (blk_setCell_other _ _ _ _ (Ne.symm nMY)).trans ((blk_setCell_other _ _ _ _ (Ne.symm nXY)).trans bY)
          have il2 : IL B ((wr.setCell ⟨X, 16, none⟩ (.string s1)).setCell ⟨M, 16, none⟩ (.string s2)) (.slice a ps.length cap) ps := hil.keep fun g hg _ =>
            (blk_setCell_other _ ⟨M, 16, none⟩ _ g (by show g ≠ M; omega)).trans (blk_setCell_other wr ⟨X, 16, none⟩ _ g (by show g ≠ X; omega))
          have v2 := hv.off tl HLT.out
          have t2 := ht.offS tl (Nat.le_refl _)
          clear bX bM bY hv ht hil cX cM fX fM tl bX1
          generalize (wr.setCell ⟨X, 16, none⟩ (.string s1)).setCell ⟨M, 16, none⟩ (.string s2) = W9 at *
          go_wp2_with fail
          refine (sputp_any L _ p _ _ _ _ v2).mono ?_; rintro e w9 ⟨rfl, v9, t9⟩
          have v9 : ViewAt w9 L en := by rw [HEN.out]; exact v9
          have il9 := il2.turnM v2 t9
          clear v2 il2
          go_wp2_with fail
          go_ret2
          exact ⟨_, rfl, ⟨fun _ => il9.mono (by omega), fun q => by cases q⟩, v9, (t2.mono fun _ _ => Or.inl).trans (t9.mono fun _ _ => Or.inr)⟩
end Go.Proofs.YtfcgkjbifnhjjaaGreatDoor.St
