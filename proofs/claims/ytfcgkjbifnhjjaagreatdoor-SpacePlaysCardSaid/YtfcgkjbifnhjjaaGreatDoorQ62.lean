/- The contracts of space.pages and space.Pages. The contract of math/bits.TrailingZeros64, where its table holds what its initialiser lays. The contract of space.Back. The library's OnesCount64 counts the bits; TrailingZeros64 tells a bit that is set; plain. No condition but those written in each statement. -/
import Derived.Test.YtfcgkjbifnhjjaaGreatDoorQ61
import Derived.Laws.AppendOwn
import Derived.Laws.IdiomStrings
import Derived.OwnWalk
import Derived.LoopTactic
import Derived.Test.YtfcgkjbifnhjjaaGreatDoorQ53
namespace Go.Proofs.YtfcgkjbifnhjjaaGreatDoor.St
open Go.RowKit
set_option linter.unusedVariables false

theorem info_int : (Tryz.prog.info? 3).map (fun i => (i.zero, i.size, i.bytes)) = some (some (.int .i64 0), 1, 8) := by kernel_rfl
/-- A list of numbers in blocks from B on. -/
def IL (B : Nat) (W : World) (v : Value) (ps : List Int) : Prop := W.ownsRow B 3 1 v ps.length (ps.map (Value.int .i64))
theorem IL.nil (B : Nat) (W : World) : IL B W (.slice none 0 0) [] := World.ownsRow_nil _ _ _ _
theorem IL.keep {B : Nat} {W W' : World} {v : Value} {ps : List Int} (h : IL B W v ps) (hb : ∀ g, B ≤ g → g < W.heap.size → W'.heap[g]? = W.heap[g]?) : IL B W' v ps := by
  refine ⟨h.1, ?_⟩
  rcases h.2 with q | ⟨g, cap, cur, h1, h2, h3, h4⟩
  · exact Or.inl q
  · exact Or.inr ⟨g, cap, cur, h1, h2, (hb g h2 (lt_of_heap h3)).trans h3, h4⟩
theorem IL.below {B : Nat} {W W' : World} {v : Value} {ps : List Int} (h : IL B W v ps) (hb : Below W.heap.size W W') : IL B W' v ps := h.keep fun g _ hg => hb.block g hg
theorem IL.mono {B C : Nat} {W : World} {v : Value} {ps : List Int} (h : IL B W v ps) (hc : C ≤ B) : IL C W v ps := by
  refine ⟨h.1, ?_⟩
  rcases h.2 with q | ⟨g, cap, cur, h1, h2, h3, h4⟩
  · exact Or.inl q
  · exact Or.inr ⟨g, cap, cur, h1, by omega, h3, h4⟩
theorem il_push {B : Nat} {wr w1 : World} {v v' : Value} {o : Obj} {ps : List Int} {p : Int} (hB : B ≤ wr.heap.size) (hown : IL B wr v ps)
    (hown' : w1.ownsRow B 3 1 v' (ps.length + 1) (ps.map (Value.int .i64) ++ [.int .i64 p])) (hgrow : (wr.alloc o).grownBy w1 v.ownBlock) :
    IL B w1 v' (ps ++ [p]) ∧ Below B wr w1 :=
  ⟨by simpa [IL] using hown', ((Below.refl B wr).alloc hB o).grown hgrow (by simp; omega) (fun j hj => by have := (World.ownsRow.lt hown j hj).1; omega)⟩
/-- A process's pages. -/
def pgL (l : List UInt8) : List Int := l.map fun b => (b.toNat : Int) % 64
def BR (W : World) (G : Nat) (l : List UInt8) : Prop := ∀ j (h : j < l.length), W.cell? ⟨G, j, none⟩ = some (.int .u8 (l[j].toNat : Int))

attribute [local irreducible] Int.lt Int.le
set_option maxRecDepth 100000 in
set_option maxHeartbeats 1000000 in
theorem pages_any (s : ByteArray) (hs : s.size ≤ 1000) (w : World) :
    Calls Tryz.prog 41 #[.string s] w fun e w' => ∃ v, e = .returned v ∧ IL w.heap.size w' v (pgL s.data.toList) ∧ Below w.heap.size w w' := by
  obtain ⟨i0, hi, hq⟩ := Option.map_eq_some_iff.1 info_int
  simp only [Prod.mk.injEq] at hq
  obtain ⟨hz0, hz1, hz2⟩ := hq
  have hcv := run_bytes_of_string (P := Tryz.prog) w 9 73 5 s Tryz.underlying9 Tryz.underlying73 Tryz.underlying5
  have hl : s.data.toList.length = s.size := by simp
  go_enter Tryz.func41, Tryz.ntmps41
  go_upto_region 3 with fail
  clear hcv
  generalize grownCap w s.size 0 5 = C
  have b1 : Below w.heap.size w (w.alloc (.cells (bytesRow s C) 5 ((bytesRow s C).size, (bytesRow s C).size + 1))).drew := ((Below.refl _ _).alloc (Nat.le_refl _) _).drew
  have r1 : BR (w.alloc (.cells (bytesRow s C) 5 ((bytesRow s C).size, (bytesRow s C).size + 1))).drew w.heap.size s.data.toList := by
    intro j hj
    have hj2 : j < s.data.size := by simpa using hj
    show (w.alloc (.cells (bytesRow s C) 5 ((bytesRow s C).size, (bytesRow s C).size + 1))).cell? ⟨w.heap.size, j, none⟩ = _
    rw [World.cell?_alloc_mark, bytesRow_at s C j hj2]
    rfl
  have z1 : w.heap.size < (w.alloc (.cells (bytesRow s C) 5 ((bytesRow s C).size, (bytesRow s C).size + 1))).drew.heap.size := by
    show w.heap.size < (w.heap.push _).size
    rw [Array.size_push]; omega
  generalize (w.alloc (.cells (bytesRow s C) 5 ((bytesRow s C).size, (bytesRow s C).size + 1))).drew = W1 at *
  have Hl := Lib.hid hl
  clear hl
  go_loopw [3, 9] (fun out i wr => ∃ j : Nat, j ≤ s.size ∧ i = .int .i64 (j : Int) ∧ IL W1.heap.size wr out (pgL (s.data.toList.take j)) ∧ Below W1.heap.size W1 wr) (fun _ i _ => s.size - (intOf i).toNat)
  case atStart => exact ⟨0, Nat.zero_le _, rfl, IL.nil _ _, Below.refl _ _⟩
  case round =>
    obtain ⟨j, hj, rfl, own, hb⟩ := hrel
    have l0 : (0 : Int) ≤ (j : Int) := by omega
    by_cases hlt : j < s.size
    · have l1 : (j : Int) < (s.size : Int) := by omega
      have x0 := (hb.cell (p := ⟨w.heap.size, j, none⟩) z1).trans (r1 j (by rw [Hl.out]; exact hlt))
      have e2 : pgL (s.data.toList.take j) ++ [((s.data.toList[j]'(by rw [Hl.out]; exact hlt)).toNat : Int) % 64] = pgL (s.data.toList.take (j + 1)) := by
        unfold pgL
        rw [List.take_succ_eq_append_getElem (by rw [Hl.out]; exact hlt), List.map_append]; rfl
      have nl : (pgL (s.data.toList.take j)).length ≤ 1000 := by unfold pgL; simp; omega
      have hbw := hb.size
      have E2 := Lib.hid e2
      have hu : ((s.data.toList[j]'(by rw [Hl.out]; exact hlt)).toNat : Int) < 256 := by have := (s.data.toList[j]'(by rw [Hl.out]; exact hlt)).toNat_lt; omega
      clear e2 r1
      generalize (s.data.toList[j]'(by rw [Hl.out]; exact hlt)).toNat = u at *
      generalize pgL (s.data.toList.take j) = done at *
      have O := own
      unfold IL at O
      go_wp2_with (first
        | (at_builtin; refine wpList_append_own _ rfl _ _ 36 rfl W1.heap.size 3 i0 (.int .i64 0) 1 8 Tryz.underlying36 hi hz0 hz1 hz2 rfl (by decide) _ _ _ rfl (World.ownsRow.alloc O _) ⟨_, 0, none⟩ 1 1 [.int .i64 ((u : Int) % 64)] rfl rfl ?c1 ?c2 ?c3 ?c4 ?c5 ?_)
        | fail)
      case c1 =>
        intro j u hj
        match j, hj with
        | 0, hj => simp at hj; subst hj; simp [Addr.add]
      case c2 => intro u hu; simp at hu; subst hu; rfl
      case c3 => unfold maxLen; omega
      case c4 => omega
      case c5 => simp; omega
      intro v' W6 hown' hgrow _
      have RR := il_push hbw own hown' hgrow
      rw [E2.out] at RR
      have O6 := Lib.hid RR.1
      have b6 := hb.trans RR.2
      clear hown' hgrow O own RR E2 hb x0
      go_wp2_with fail
      exact ⟨⟨j + 1, by omega, by go_num, O6.out, b6⟩, by simp [intOf]; omega⟩
    · obtain rfl : j = s.size := by omega
      rw [← Hl.out, List.take_length] at own
      go_wp2_with fail
      go_ret
      exact ⟨_, rfl, own.mono (by omega), b1.trans (hb.mono (by omega))⟩
attribute [local go_sem] blk_alloc_at blk_alloc_past blk_drew blk_drewN blk_setB_same blk_setB_other blk_setRow_other setRow_alloc_at setRow_alloc_past setRow_drewN setRow_drew setB_size setB_cell setB_frozen setB_alloc_past setB_drewN setB_drew run_loadV loadOr_cells run_storeV storeOr_cells cells_size ones_cells cells_0 cells_1 cells_2 cells_16
attribute [local go_sem ↓] execOp_loadV execOp_storeV
attribute [local go_sem ↓] wp_at0 wp_at1 wp_at2 wp_at3 wp_at4 wp_at5 wp_at6 wp_at7
/-- What Pages tells. -/
def sPg (st : VSt) (p : Int) : List Int := if qState st p = 0 then [] else pgL (st.get 4 p).s.data.toList
theorem run_fieldS (x : Val) (W : World) : (Instr.field 60 (.agg x.cells) 1).run Tryz.prog W = .ok (.string x.s) W := by kernel_rfl
attribute [local go_sem] run_fieldN run_indexN run_fieldS
set_option maxRecDepth 100000 in
set_option maxHeartbeats 1000000 in
theorem spages_any (L : Lay) (st : VSt) (p : Int) (hs : (st.get 4 p).s.size ≤ 1000) (w : World) (hV : ViewAt w L st) :
    Calls Tryz.prog 53 #[.pointer (some ⟨L.v, 0, none⟩), .int .i64 p] w fun e w' => ∃ v, e = .returned v ∧ IL w.heap.size w' v (sPg st p) ∧ (∃ st', (∀ k n, st'.get k n = st.get k n) ∧ ViewAt w' L st') ∧ Turn (· = L.r) w w' := by
  have lt := hV.lts
  by_cases h : qState st p = 0
  · rw [show sPg st p = [] by unfold sPg; rw [if_pos h]]
    go_enter Tryz.func53, Tryz.ntmps53
    go_wp2_with fail
    refine (qstate_any L st p w hV).mono ?_; rw [h]; rintro e w1 ⟨rfl, hv1, t1⟩
    go_wp2_with fail
    go_ret
    exact ⟨_, rfl, IL.nil _ _, ⟨_, get_qSaw st p, hv1⟩, t1⟩
  · have hb : (qState st p == 0) = false := beq_eq_false_iff_ne.2 h
    rw [show sPg st p = pgL (st.get 4 p).s.data.toList by unfold sPg; rw [if_neg h]]
    obtain ⟨x, hx⟩ : ∃ x, x = st.get 4 p := ⟨_, rfl⟩
    rw [← hx] at hs ⊢
    have Hx := Lib.hid hx
    obtain ⟨q, hq⟩ : ∃ q, q = qState st p := ⟨_, rfl⟩
    rw [← hq] at hb
    have Hq := Lib.hid hq
    clear hx h hq
    go_enter Tryz.func53, Tryz.ntmps53
    go_wp2_with fail
    refine (qstate_any L st p w hV).mono ?_; rw [← Hq.out]; rintro e w1 ⟨rfl, hv1, t1⟩
    clear hV Hq
    go_wp2_with fail
    refine (skeys_any p _).mono ?_; rintro e w2 ⟨rfl, t2⟩
    have v2 := hv1.below t2
    have tt2 := t1.trans (Turn.of_below t2 _)
    clear hv1 t1 t2
    have v3 := (v2.alloc (Obj.cells #[.int .i64 4, .int .i64 p] 57)).alloc (Obj.cells #[.int .i64 12, .int .i64 p] 57)
    have t3 := (tt2.alloc (Obj.cells #[.int .i64 4, .int .i64 p] 57)).alloc (Obj.cells #[.int .i64 12, .int .i64 p] 57)
    have sk1 : (w2.alloc (Obj.cells #[.int .i64 4, .int .i64 p] 57)).heap.size = w2.heap.size + 1 := by simp
    have bb2 := (Below.refl (w2.alloc (Obj.cells #[.int .i64 4, .int .i64 p] 57)).heap.size (w2.alloc (Obj.cells #[.int .i64 4, .int .i64 p] 57))).alloc (Nat.le_refl _) (Obj.cells #[.int .i64 12, .int .i64 p] 57)
    have q1 : blk ((w2.alloc (Obj.cells #[.int .i64 4, .int .i64 p] 57)).alloc (Obj.cells #[.int .i64 12, .int .i64 p] 57)) w2.heap.size = some (.cells #[.int .i64 4, .int .i64 p] 57 (0, 0)) := blk_below bb2 (blk_alloc_at _ _ _ rfl) (by omega)
    go_upto_region 4 with fail
    clear v2 tt2 bb2 sk1
    generalize ((w2.alloc (Obj.cells #[.int .i64 4, .int .i64 p] 57)).alloc (Obj.cells #[.int .i64 12, .int .i64 p] 57)) = W3 at *
    have e0 := (key_cells q1).1
    have e1 := (key_cells q1).2
    go_wp2_with fail
    refine (vget_any L (qSaw st p) 4 p _ v3).mono ?_; rw [get_qSaw, ← Hx.out]; rintro e w4 ⟨rfl, v4, t4⟩
    have tt4 := t3.trans t4
    clear e0 e1 q1 v3 t3 t4
    go_wp2_with fail
    refine (pages_any x.s hs _).mono ?_; rintro e w5 ⟨v, rfl, own, t5⟩
    go_wp2_with fail
    go_ret
    exact ⟨_, rfl, own.mono tt4.size, ⟨_, fun k n => by rw [get_saw, get_qSaw], v4.below t5⟩, tt4.trans (Turn.of_below t5 _)⟩
end Go.Proofs.YtfcgkjbifnhjjaaGreatDoor.St

namespace Go.Proofs.YtfcgkjbifnhjjaaGreatDoor.St
open Go.RowKit
set_option linter.unusedVariables false

/-- The library's table. -/
def dbL : List Int := [0, 1, 56, 2, 57, 49, 28, 3, 61, 58, 42, 50, 38, 29, 17, 4, 62, 47, 59, 36, 45, 43, 51, 22, 53, 39, 33, 30, 24, 18, 12, 5, 63, 55, 48, 27, 60, 41, 37, 16, 46, 35, 44, 21, 52, 32, 23, 11, 54, 26, 40, 15, 34, 20, 31, 10, 25, 14, 19, 9, 13, 8, 7, 6]
/-- The library's variable holds it. -/
def Bx (w : World) : Prop := ∀ i : Nat, i < 64 → w.cell? ⟨0, i, none⟩ = some (.int .u8 (dbL.getD i 0))
theorem Bx.below {B : Nat} {w w' : World} (h : Bx w) (hB : w.heap.size ≤ B) (hb : Below B w w') : Bx w' := fun i hi => by
  have := World.block_lt_of_cell? _ _ (h i hi)
  exact (hb.cell (by simp at this ⊢; omega)).trans (h i hi)
theorem Bx.turn {S : Nat → Prop} {w w' : World} (h : Bx w) (hb : Turn S w w') (hS : ¬ S 0) : Bx w' := fun i hi => by
  have hlt := World.block_lt_of_cell? _ _ (h i hi)
  rw [World.cell?_of_block (hb.block _ (by simpa using hlt) hS)]
  exact h i hi
/-- Where the table is looked at. -/
def dbN (a : Int) : Int := IntKind.u64.wrap (bits .and .u64 a (IntKind.u64.wrap (-a)) * 285870213051353865) / 288230376151711744
theorem dbN_bounds (a : Int) : 0 ≤ dbN a ∧ dbN a < 64 := by
  unfold dbN
  generalize bits .and .u64 a (IntKind.u64.wrap (-a)) * 285870213051353865 = y
  have : 0 ≤ IntKind.u64.wrap y ∧ IntKind.u64.wrap y < 18446744073709551616 := by
    simp [IntKind.wrap, IntKind.bits, IntKind.signed]; omega
  omega
theorem db_bounds : ∀ i : Nat, i < 64 → 0 ≤ dbL.getD i 0 ∧ dbL.getD i 0 < 64 := by decide
def tz64 (a : Int) : Int := dbL.getD (dbN a).toNat 0
attribute [local irreducible] Int.lt Int.le
set_option maxRecDepth 100000 in
theorem tz_any (a : Int) (h0 : (a == 0) = false) (w : World) (hB : Bx w) :
    Calls Tryz.prog 33 #[.int .u64 a] w fun e w' => e = .returned (.int .i64 (tz64 a)) ∧ w = w' := by
  obtain ⟨j, hj⟩ : ∃ j : Nat, dbN a = (j : Int) := ⟨(dbN a).toNat, by have := dbN_bounds a; omega⟩
  have hb := dbN_bounds a
  have hc := hB j (by omega)
  have l0 : (0 : Int) ≤ (j : Int) := by omega
  have l1 : (j : Int) < 64 := by omega
  rw [show tz64 a = dbL.getD j 0 by unfold tz64; rw [hj]; rfl]
  obtain ⟨v, hv⟩ : ∃ v, v = dbL.getD j 0 := ⟨_, rfl⟩
  have hw : wrap64 v = v := by
    have := db_bounds j (by omega)
    rw [← hv] at this
    unfold wrap64; omega
  have Hw := Lib.hid hw
  clear hw
  rw [← hv] at hc ⊢
  unfold dbN at hj
  clear hb hB hv
  go_enter Tryz.func33, Tryz.ntmps33
  go_wp2_with fail
  go_ret
  exact ⟨by show Ending.returned (.int .i64 (wrap64 v)) = _; rw [Hw.out], rfl⟩
/-! ### space.Grow, where it refuses -/
set_option maxRecDepth 100000 in
theorem sgrow_no (L : Lay) (st : VSt) (p n : Int) (h : qState st p = 0 ∨ (qState st p ≠ 0 ∧ n < 0)) (w : World) (hV : ViewAt w L st) :
    Calls Tryz.prog 6 #[.pointer (some ⟨L.v, 0, none⟩), .int .i64 p, .int .i64 n] w fun e w' => e = .returned (.bool false) ∧ ViewAt w' L (qSaw st p) ∧ Turn (· = L.r) w w' := by
  obtain ⟨q, hq⟩ : ∃ q, q = qState st p := ⟨_, rfl⟩
  rw [← hq] at h
  have Hq := Lib.hid hq
  clear hq
  have hc : (q == 0) = true ∨ ((q == 0) = false ∧ decide (n < 0) = true) := by
    rcases h with rfl | ⟨h1, h2⟩
    · exact Or.inl rfl
    · exact Or.inr ⟨beq_eq_false_iff_ne.2 h1, decide_eq_true h2⟩
  clear h
  rcases hc with h1 | ⟨h1, h2⟩
  all_goals
    go_enter Tryz.func6, Tryz.ntmps6
    go_wp2_with fail
    refine (qstate_any L st p w hV).mono ?_; rw [← Hq.out]; rintro e w1 ⟨rfl, hv1, t1⟩
    go_wp2_with fail
    go_ret
    exact ⟨rfl, hv1, t1⟩
set_option maxRecDepth 100000 in
theorem sshrink_no (L : Lay) (st : VSt) (p n : Int) (h : qState st p = 0 ∨ (qState st p ≠ 0 ∧ n < 0)) (w : World) (hV : ViewAt w L st) :
    Calls Tryz.prog 8 #[.pointer (some ⟨L.v, 0, none⟩), .int .i64 p, .int .i64 n] w fun e w' => e = .returned (.tuple #[.slice none 0 0, .bool false]) ∧ ViewAt w' L (qSaw st p) ∧ Turn (· = L.r) w w' := by
  obtain ⟨q, hq⟩ : ∃ q, q = qState st p := ⟨_, rfl⟩
  rw [← hq] at h
  have Hq := Lib.hid hq
  clear hq
  have hc : (q == 0) = true ∨ ((q == 0) = false ∧ decide (n < 0) = true) := by
    rcases h with rfl | ⟨h1, h2⟩
    · exact Or.inl rfl
    · exact Or.inr ⟨beq_eq_false_iff_ne.2 h1, decide_eq_true h2⟩
  clear h
  rcases hc with h1 | ⟨h1, h2⟩
  all_goals
    go_enter Tryz.func8, Tryz.ntmps8
    go_wp2_with fail
    refine (qstate_any L st p w hV).mono ?_; rw [← Hq.out]; rintro e w1 ⟨rfl, hv1, t1⟩
    go_wp2_with fail
    go_ret2
    exact ⟨rfl, hv1, t1⟩
end Go.Proofs.YtfcgkjbifnhjjaaGreatDoor.St

namespace Go.Proofs.YtfcgkjbifnhjjaaGreatDoor.St
open Go.RowKit
set_option linter.unusedVariables false

/-- A page that comes back; some pages. -/
def bk1 (y : Val) (g : Int) : Val := if g < 0 ∨ 64 ≤ g then y else if usedI (y.n 1) g.toNat = false then y else (y.set 1 (unmarkN (y.n 1) g.toNat)).set 0 (markI (y.n 0) g.toNat)
def bkV (y : Val) (l : List Int) : Val := l.foldl bk1 y
theorem bkV_snoc (y : Val) (l : List Int) (g : Int) : bkV y (l ++ [g]) = bk1 (bkV y l) g := by unfold bkV; rw [List.foldl_append]; rfl
/-- A slice of numbers. -/
def NR (W : World) (a : Option Addr) (zs : List Int) : Prop := ∀ i (h : i < zs.length), ∃ x, a = some x ∧ W.cell? (x.add i) = some (.int .i64 zs[i])
theorem NR.turn {W W' : World} {L : Lay} {st : VSt} {a : Option Addr} {zs : List Int} (h : NR W a zs) (hV : ViewAt W L st) (hm : Turn (· = L.r) W W') : NR W' a zs := fun i hi => by
  obtain ⟨x, e, c⟩ := h i hi
  have hlt := World.block_lt_of_cell? _ _ c
  obtain ⟨_, _, hr, _⟩ := hV.cr
  have hne : ¬((x.add i).block = L.r) := by
    intro q
    unfold World.cell? at c; rw [q, hr] at c; simp at c
  refine ⟨x, e, ?_⟩
  rw [World.cell?_of_block (hm.block (x.add i).block (by simpa using hlt) hne)]
  exact c
theorem NR.below {W W' : World} {a : Option Addr} {zs : List Int} (h : NR W a zs) (hb : Below W.heap.size W W') : NR W' a zs := fun i hi => by
  obtain ⟨x, e, c⟩ := h i hi
  exact ⟨x, e, (hb.cell (World.block_lt_of_cell? _ _ c)).trans c⟩

attribute [local go_sem] blk_alloc_at blk_alloc_past blk_drew blk_drewN blk_setB_same blk_setB_other blk_setRow_other setRow_alloc_at setRow_alloc_past setRow_drewN setRow_drew setB_size setB_cell setB_frozen setB_alloc_past setB_drewN setB_drew run_loadV loadOr_cells run_storeV storeOr_cells cells_size ones_cells cells_0 cells_1 cells_2 cells_16
attribute [local go_sem ↓] execOp_loadV execOp_storeV
attribute [local go_sem ↓] wp_at0 wp_at1 wp_at2 wp_at3 wp_at4 wp_at5 wp_at6 wp_at7
attribute [local irreducible] Int.lt Int.le
/-- What the loop over the pages holds. -/
structure BKN (w W : World) (L : Lay) (st : VSt) (y : Val) (B : Nat) (a : Option Addr) (zs : List Int) (j : Nat) : Prop where
  v : ViewAt W L st
  t : Turn (· = L.r) w W
  b : blk W B = some (.cells (bkV y (zs.take j)).cells 60 (0, 0))
  r : NR W a zs
theorem BKN.set {w W : World} {L : Lay} {st : VSt} {y : Val} {B : Nat} {a : Option Addr} {zs : List Int} {j : Nat} (H : BKN w W L st y B a zs j) (lt : L.v < w.heap.size ∧ L.s < w.heap.size ∧ L.l < w.heap.size ∧ L.r < w.heap.size ∧ L.m < w.heap.size) (hB : w.heap.size ≤ B) (hz : ∀ i (h : i < zs.length), ∀ x, a = some x → (x.add i).block < w.heap.size)
    (hj : j < zs.length) (g : Int) (hg : zs[j] = g) (g0 : ¬ (g < 0 ∨ 64 ≤ g)) (hu : usedI ((bkV y (zs.take j)).n 1) g.toNat = true) :
    BKN w ((W.setCell ⟨B, 1, none⟩ (.int .i64 (unmarkN ((bkV y (zs.take j)).n 1) g.toNat))).setCell ⟨B, 0, none⟩ (.int .i64 (markI ((bkV y (zs.take j)).n 0) g.toNat))) L st y B a zs (j + 1) := by
  have tl : Turn (fun k => w.heap.size ≤ k) W ((W.setCell ⟨B, 1, none⟩ (.int .i64 (unmarkN ((bkV y (zs.take j)).n 1) g.toNat))).setCell ⟨B, 0, none⟩ (.int .i64 (markI ((bkV y (zs.take j)).n 0) g.toNat))) :=
    ((Turn.refl _ _).setCell (p := ⟨B, 1, none⟩) (Or.inl hB) _).setCell (p := ⟨B, 0, none⟩) (Or.inl hB) _
  refine ⟨H.v.off tl lt, H.t.offS tl (Nat.le_refl _), ?_, fun i hi => ?_⟩
  · have h := blk_setCell_same (blk_setCell_same H.b 1 (.int .i64 (unmarkN ((bkV y (zs.take j)).n 1) g.toNat))) 0 (.int .i64 (markI ((bkV y (zs.take j)).n 0) g.toNat))
    rw [cells_set1, cells_set0] at h
    rw [h, List.take_succ_eq_append_getElem hj, bkV_snoc, hg]
    unfold bk1
    rw [if_neg g0, hu, if_neg (by decide)]
  · obtain ⟨x, e, c⟩ := H.r i hi
    have := hz i hi x e
    refine ⟨x, e, ?_⟩
    rw [World.cell?_setCell_other _ _ _ _ (fun q => by rw [← q] at this; simp at this; omega), World.cell?_setCell_other _ _ _ _ (fun q => by rw [← q] at this; simp at this; omega)]
    exact c
theorem BKN.stay {w W : World} {L : Lay} {st : VSt} {y : Val} {B : Nat} {a : Option Addr} {zs : List Int} {j : Nat} (H : BKN w W L st y B a zs j) (hj : j < zs.length) (g : Int) (hg : zs[j] = g) (h : bk1 (bkV y (zs.take j)) g = bkV y (zs.take j)) : BKN w W L st y B a zs (j + 1) :=
  ⟨H.v, H.t, by rw [List.take_succ_eq_append_getElem hj, bkV_snoc, hg, h]; exact H.b, H.r⟩
set_option maxRecDepth 100000 in
set_option maxHeartbeats 1000000 in
theorem sback_any (L : Lay) (st : VSt) (a : Option Addr) (cap : Nat) (zs : List Int) (hz : zs.length ≤ 1000) (w : World) (hV : ViewAt w L st) (hR : NR w a zs) :
    Calls Tryz.prog 11 #[.pointer (some ⟨L.v, 0, none⟩), .slice a zs.length cap] w fun e w' => e = .returned (.tuple #[]) ∧ ViewAt w' L ((st.saw 2 0).put 2 0 (bkV (st.get 2 0) zs)) ∧ Turn (fun k => k = L.r ∨ k = L.m) w w' := by
  have lt := hV.lts
  have hblk : ∀ i (h : i < zs.length), ∀ x, a = some x → (x.add i).block < w.heap.size := fun i h x e => by
    obtain ⟨x', e', c⟩ := hR i h
    rw [e] at e'; cases e'
    exact World.block_lt_of_cell? _ _ c
  obtain ⟨y, hy⟩ : ∃ y, y = st.get 2 0 := ⟨_, rfl⟩
  rw [← hy]
  have Hy := Lib.hid hy
  clear hy
  go_enter Tryz.func11, Tryz.ntmps11
  go_wp2_with fail
  refine (spool_any _).mono ?_; rintro e w1 ⟨rfl, t1⟩
  have hv1 := hV.below t1
  go_wp2_with fail
  refine (vget_any L st 2 0 _ hv1).mono ?_; rw [← Hy.out]; rintro e w2 ⟨rfl, hv2, t2⟩
  have R2 := (hR.below t1).turn hv1 t2
  have tt2 := (Turn.of_below t1 _).trans t2
  have I0 : BKN w (w2.alloc (Obj.cells y.cells 60)) L (st.saw 2 0) y w2.heap.size a zs 0 :=
    ⟨hv2.alloc _, tt2.alloc _, blk_alloc_at _ _ _ rfl, R2.below ((Below.refl _ _).alloc (Nat.le_refl _) _)⟩
  have hB := tt2.size
  go_upto_region 2 with fail
  clear hv1 hv2 t1 t2 R2 tt2 hV hR Hy
  generalize w2.alloc (Obj.cells y.cells 60) = W3 at *
  generalize w2.heap.size = B at *
  go_loopw [12] (fun i wr => ∃ j : Nat, j ≤ zs.length ∧ i = .int .i64 (j : Int) ∧ BKN w wr L (st.saw 2 0) y B a zs j) (fun i _ => zs.length - (intOf i).toNat)
  case atStart => exact ⟨0, by omega, rfl, I0⟩
  case round =>
    clear I0
    obtain ⟨j, hj, rfl, H⟩ := hrel
    have j0 : (0 : Int) ≤ (j : Int) := by omega
    by_cases hlt : j < zs.length
    · have l1 : (j : Int) < (zs.length : Int) := by omega
      obtain ⟨x, rfl, x0⟩ := H.r j hlt
      obtain ⟨g, hg⟩ : ∃ g, g = zs[j] := ⟨_, rfl⟩
      rw [← hg] at x0
      have Hg := Lib.hid hg.symm
      clear hg
      have d0 := cell_of_row _ _ 0 _ _ _ H.b
      have d1 := cell_of_row _ _ 1 _ _ _ H.b
      rw [cells_0] at d0
      rw [cells_1] at d1
      have f := frozen_blk H.b
      have hc : (decide (g < 0) = true) ∨ (decide (g < 0) = false ∧ decide (64 ≤ g) = true) ∨ (decide (g < 0) = false ∧ decide (64 ≤ g) = false) := by
        by_cases h1 : g < 0
        · exact Or.inl (decide_eq_true h1)
        · by_cases h2 : 64 ≤ g
          · exact Or.inr (Or.inl ⟨decide_eq_false h1, decide_eq_true h2⟩)
          · exact Or.inr (Or.inr ⟨decide_eq_false h1, decide_eq_false h2⟩)
      have H' := Lib.hid H
      clear H
      rcases hc with h1 | ⟨h1, h2⟩ | ⟨h1, h2⟩
      · go_wp2_with fail
        exact ⟨⟨j + 1, by omega, by go_num, H'.out.stay hlt g Hg.out (by unfold bk1; rw [if_pos (Or.inl (of_decide_eq_true h1))])⟩, by simp [intOf]; omega⟩
      · go_wp2_with fail
        exact ⟨⟨j + 1, by omega, by go_num, H'.out.stay hlt g Hg.out (by unfold bk1; rw [if_pos (Or.inr (of_decide_eq_true h2))])⟩, by simp [intOf]; omega⟩
      · have g0 : ¬ (g < 0 ∨ 64 ≤ g) := by have := of_decide_eq_false h1; have := of_decide_eq_false h2; omega
        obtain ⟨u, rfl⟩ := Int.eq_ofNat_of_zero_le (show 0 ≤ g by omega)
        have g1 : (0 : Int) ≤ (u : Int) := by omega
        have g2 : (u : Int) < 64 := by omega
        have hb := used_not ((bkV y (zs.take j)).n 1) u
        cases hu : usedI ((bkV y (zs.take j)).n 1) u with
        | false =>
          rw [hu] at hb
          have S := Lib.hid (H'.out.stay hlt (u : Int) Hg.out (by unfold bk1; rw [if_neg g0, show ((u : Nat) : Int).toNat = u from rfl, if_pos hu]))
          clear H'
          generalize (bkV y (zs.take j)) = z at *
          go_wp2_with fail
          exact ⟨⟨j + 1, by omega, by go_num, S.out⟩, by simp [intOf]; omega⟩
        | true =>
          rw [hu] at hb
          have S := Lib.hid (H'.out.set lt hB hblk hlt (u : Int) Hg.out g0 hu)
          rw [show ((u : Nat) : Int).toNat = u from rfl] at S
          clear H'
          generalize (bkV y (zs.take j)) = z at *
          go_wp2_with fail
          rw [unmarkN_def, markI_def]
          exact ⟨⟨j + 1, by omega, by go_num, S.out⟩, by simp [intOf]; omega⟩
    · obtain rfl : j = zs.length := by omega
      have hb := H.b
      rw [List.take_length] at hb
      have hv := H.v
      have ht := H.t
      clear H
      go_upto_region 8 with fail
      obtain ⟨bd, vd, sd⟩ := at_drew hb hv
      go_region_with (first
        | (go_at_call 32; refine (spool_any _).mono ?_; rintro e w8 ⟨rfl, t8⟩; have b8 := blk_below t8 bd sd; have v8 := vd.below t8; have r8 := t8.size)
        | (go_at_call 42; refine (vput_any L (st.saw 2 0) 2 0 (bkV y zs) _ (by assumption)).mono ?_; rintro e w9 ⟨rfl, v9, t9⟩))
      all_goals
        clear hb hv bd vd b8 v8
        go_wp2_with fail
        go_end0
        exact ⟨rfl, v9, ((ht.mono fun _ _ => Or.inl).drew.trans (Turn.of_below t8 _)).trans (t9.mono fun _ _ => Or.inr)⟩
end Go.Proofs.YtfcgkjbifnhjjaaGreatDoor.St

namespace Go.Proofs.YtfcgkjbifnhjjaaGreatDoor.St
open Go.RowKit
set_option linter.unusedVariables false

/-- A number of bytes. -/
def val8 : List Nat → Nat
  | [] => 0
  | b :: l => b + 256 * val8 l
def bytes8 (l : List Nat) : Prop := ∀ b ∈ l, b < 256
theorem val8_lt : ∀ l : List Nat, bytes8 l → val8 l < 256 ^ l.length
  | [], _ => by simp [val8]
  | b :: l, h => by
    have h1 := val8_lt l (fun x hx => h x (List.mem_cons_of_mem _ hx))
    have h2 := h b (List.mem_cons_self ..)
    unfold val8
    rw [List.length_cons, Nat.pow_succ]
    omega
theorem and_split (lo hi m M : Nat) (h1 : lo < 256) (h2 : m < 256) : (lo + 256 * hi) &&& (m + 256 * M) = (lo &&& m) + 256 * (hi &&& M) := by
  have e1 : ((lo + 256 * hi) &&& (m + 256 * M)) % 2 ^ 8 = lo &&& m := by
    rw [Nat.and_mod_two_pow]
    congr 1 <;> omega
  have e2 : ((lo + 256 * hi) &&& (m + 256 * M)) / 2 ^ 8 = hi &&& M := by
    rw [Nat.and_div_two_pow]
    congr 1 <;> omega
  generalize (lo + 256 * hi) &&& (m + 256 * M) = z at *
  omega
def f1 (b : Nat) : Nat := (b / 2 &&& 85) + (b &&& 85)
def f2 (b : Nat) : Nat := (b / 4 &&& 51) + (b &&& 51)
def f3 (b : Nat) : Nat := (b / 16 + b) &&& 15
theorem f1_lt : ∀ b, b < 256 → f1 b < 256 := by decide +kernel
theorem f2_lt : ∀ b, b < 256 → f2 b < 256 := by decide +kernel
theorem f1_low : ∀ b, b < 256 → ∀ c, c < 2 → ((b / 2 + 128 * c) &&& 85) = (b / 2 &&& 85) := by decide +kernel
theorem f2_low : ∀ b, b < 256 → ∀ c, c < 4 → ((b / 4 + 64 * c) &&& 51) = (b / 4 &&& 51) := by decide +kernel
theorem f12_le : ∀ b, b < 256 → f2 (f1 b) ≤ 68 ∧ f2 (f1 b) % 16 ≤ 4 := by decide +kernel
theorem f3_low : ∀ b, b < 69 → ∀ c, c < 5 → ((b / 16 + 16 * c + b) &&& 15) = f3 b := by decide +kernel
def pop (b : Nat) : Nat := f3 (f2 (f1 b))
theorem pop_le : ∀ b, b < 256 → pop b ≤ 8 := by decide +kernel
def masks (c : Nat) (l : List Nat) : Nat := val8 (l.map fun _ => c)
theorem stage1 : ∀ l : List Nat, bytes8 l → (val8 l / 2 &&& masks 85 l) + (val8 l &&& masks 85 l) = val8 (l.map f1)
  | [], _ => by simp [val8, masks]
  | b :: l, h => by
    have ih := stage1 l (fun x hx => h x (List.mem_cons_of_mem _ hx))
    have hb := h b (List.mem_cons_self ..)
    show ((b + 256 * val8 l) / 2 &&& (85 + 256 * masks 85 l)) + ((b + 256 * val8 l) &&& (85 + 256 * masks 85 l)) = f1 b + 256 * val8 (l.map f1)
    have e : (b + 256 * val8 l) / 2 = (b / 2 + 128 * (val8 l % 2)) + 256 * (val8 l / 2) := by omega
    rw [e, and_split _ _ _ _ (by omega) (by omega), and_split _ _ _ _ hb (by omega), f1_low b hb _ (Nat.mod_lt _ (by omega)), ← ih]
    unfold f1
    generalize val8 l / 2 &&& masks 85 l = p
    generalize val8 l &&& masks 85 l = q
    omega
theorem stage2 : ∀ l : List Nat, bytes8 l → (val8 l / 4 &&& masks 51 l) + (val8 l &&& masks 51 l) = val8 (l.map f2)
  | [], _ => by simp [val8, masks]
  | b :: l, h => by
    have ih := stage2 l (fun x hx => h x (List.mem_cons_of_mem _ hx))
    have hb := h b (List.mem_cons_self ..)
    show ((b + 256 * val8 l) / 4 &&& (51 + 256 * masks 51 l)) + ((b + 256 * val8 l) &&& (51 + 256 * masks 51 l)) = f2 b + 256 * val8 (l.map f2)
    have e : (b + 256 * val8 l) / 4 = (b / 4 + 64 * (val8 l % 4)) + 256 * (val8 l / 4) := by omega
    rw [e, and_split _ _ _ _ (by omega) (by omega), and_split _ _ _ _ hb (by omega), f2_low b hb _ (Nat.mod_lt _ (by omega)), ← ih]
    unfold f2
    generalize val8 l / 4 &&& masks 51 l = p
    generalize val8 l &&& masks 51 l = q
    omega
theorem low_le : ∀ l : List Nat, (∀ b ∈ l, b ≤ 68 ∧ b % 16 ≤ 4) → val8 l % 16 ≤ 4
  | [], _ => by simp [val8]
  | b :: l, h => by
    have := (h b (List.mem_cons_self ..)).2
    show (b + 256 * val8 l) % 16 ≤ 4
    omega
theorem stage3 : ∀ l : List Nat, (∀ b ∈ l, b ≤ 68 ∧ b % 16 ≤ 4) → (val8 l / 16 + val8 l) &&& masks 15 l = val8 (l.map f3)
  | [], _ => by simp [val8, masks]
  | b :: l, h => by
    have hl : ∀ b ∈ l, b ≤ 68 ∧ b % 16 ≤ 4 := fun x hx => h x (List.mem_cons_of_mem _ hx)
    have ih := stage3 l hl
    have hb := h b (List.mem_cons_self ..)
    have hlow := low_le l hl
    show ((b + 256 * val8 l) / 16 + (b + 256 * val8 l)) &&& (15 + 256 * masks 15 l) = f3 b + 256 * val8 (l.map f3)
    have e : (b + 256 * val8 l) / 16 + (b + 256 * val8 l) = (b / 16 + 16 * (val8 l % 16) + b) + 256 * (val8 l / 16 + val8 l) := by omega
    rw [e, and_split _ _ _ _ (by omega) (by omega), f3_low b (by omega) _ (by omega), ← ih]

theorem low_top : ∀ l : List Nat, (∀ b ∈ l, b ≤ 68 ∧ b % 16 ≤ 4) → l.length = 8 → val8 l ≤ 4919131752989213764 := by
  intro l h hl
  match l, hl with
  | [a, b, c, d, e, f, g, i], _ =>
    simp only [List.mem_cons, List.not_mem_nil, or_false, forall_eq_or_imp, forall_eq] at h
    simp only [val8]
    omega
theorem band (a b : Nat) (ha : a < 18446744073709551616) (hb : b < 18446744073709551616) : bits .and .u64 (a : Int) (b : Int) = ((a &&& b : Nat) : Int) := by
  show IntKind.u64.wrap (((BitVec.ofInt 64 (a : Int)) &&& (BitVec.ofInt 64 (b : Int))).toNat : Int) = _
  rw [BitVec.toNat_and, BitVec.ofInt_natCast, BitVec.ofInt_natCast, BitVec.toNat_ofNat, BitVec.toNat_ofNat, Nat.mod_eq_of_lt ha, Nat.mod_eq_of_lt hb]
  have : a &&& b ≤ a := Nat.and_le_left
  simp [IntKind.wrap, IntKind.bits, IntKind.signed]
  omega
theorem wrapU (x : Nat) (h : x < 18446744073709551616) : IntKind.u64.wrap (x : Int) = (x : Int) := by
  simp [IntKind.wrap, IntKind.bits, IntKind.signed]
  omega
def sumL (l : List Nat) : Nat := l.foldr (· + ·) 0
theorem and127 (y : Int) : bits .and .i64 y 127 = y % 128 := by
  show IntKind.i64.wrap (((BitVec.ofInt 64 y) &&& (BitVec.ofInt 64 127)).toNat : Int) = _
  have h1 : (BitVec.ofInt 64 127).toNat = 2 ^ 7 - 1 := by decide
  rw [BitVec.toNat_and, h1, Nat.and_two_pow_sub_one_eq_mod, BitVec.toNat_ofInt, wrap_i64]
  unfold wrap64; omega
theorem step4 (d e : Nat) (h : d / 256 = e) (hb : d + e < 18446744073709551616) : o4 (d : Int) = ((d + e : Nat) : Int) := by
  unfold o4
  rw [← h, show ((d : Int) / 256) = ((d / 256 : Nat) : Int) by simp, ← Int.natCast_add, h]
  exact wrapU _ hb
theorem step5 (d e : Nat) (h : d / 65536 = e) (hb : d + e < 18446744073709551616) : o5 (d : Int) = ((d + e : Nat) : Int) := by
  unfold o5
  rw [← h, show ((d : Int) / 65536) = ((d / 65536 : Nat) : Int) by simp, ← Int.natCast_add, h]
  exact wrapU _ hb
theorem step6 (d e : Nat) (h : d / 4294967296 = e) (hb : d + e < 18446744073709551616) : o6 (d : Int) = ((d + e : Nat) : Int) := by
  unfold o6
  rw [← h, show ((d : Int) / 4294967296) = ((d / 4294967296 : Nat) : Int) by simp, ← Int.natCast_add, h]
  exact wrapU _ hb
theorem low128 (a b c d e f g i : Nat) (ha : a ≤ 64) (hi : i ≤ 64) : wrap64 ((val8 [a, b, c, d, e, f, g, i] : Nat) : Int) % 128 = (a : Int) := by
  simp only [val8]
  unfold wrap64
  omega
theorem ones_tail (c0 c1 c2 c3 c4 c5 c6 c7 : Nat) (h : c0 ≤ 8 ∧ c1 ≤ 8 ∧ c2 ≤ 8 ∧ c3 ≤ 8 ∧ c4 ≤ 8 ∧ c5 ≤ 8 ∧ c6 ≤ 8 ∧ c7 ≤ 8) :
    bits .and .i64 (wrap64 (o6 (o5 (o4 ((val8 [c0, c1, c2, c3, c4, c5, c6, c7] : Nat) : Int))))) 127 = ((sumL [c0, c1, c2, c3, c4, c5, c6, c7] : Nat) : Int) := by
  have e4 := step4 (val8 [c0, c1, c2, c3, c4, c5, c6, c7]) (val8 [c1, c2, c3, c4, c5, c6, c7]) (by simp only [val8]; omega) (by simp only [val8]; omega)
  rw [show val8 [c0, c1, c2, c3, c4, c5, c6, c7] + val8 [c1, c2, c3, c4, c5, c6, c7] = val8 [c0 + c1, c1 + c2, c2 + c3, c3 + c4, c4 + c5, c5 + c6, c6 + c7, c7] by simp only [val8]; omega] at e4
  have e5 := step5 (val8 [c0 + c1, c1 + c2, c2 + c3, c3 + c4, c4 + c5, c5 + c6, c6 + c7, c7]) (val8 [c2 + c3, c3 + c4, c4 + c5, c5 + c6, c6 + c7, c7]) (by simp only [val8]; omega) (by simp only [val8]; omega)
  rw [show val8 [c0 + c1, c1 + c2, c2 + c3, c3 + c4, c4 + c5, c5 + c6, c6 + c7, c7] + val8 [c2 + c3, c3 + c4, c4 + c5, c5 + c6, c6 + c7, c7] = val8 [c0 + c1 + c2 + c3, c1 + c2 + c3 + c4, c2 + c3 + c4 + c5, c3 + c4 + c5 + c6, c4 + c5 + c6 + c7, c5 + c6 + c7, c6 + c7, c7] by simp only [val8]; omega] at e5
  have e6 := step6 (val8 [c0 + c1 + c2 + c3, c1 + c2 + c3 + c4, c2 + c3 + c4 + c5, c3 + c4 + c5 + c6, c4 + c5 + c6 + c7, c5 + c6 + c7, c6 + c7, c7]) (val8 [c4 + c5 + c6 + c7, c5 + c6 + c7, c6 + c7, c7]) (by simp only [val8]; omega) (by simp only [val8]; omega)
  rw [show val8 [c0 + c1 + c2 + c3, c1 + c2 + c3 + c4, c2 + c3 + c4 + c5, c3 + c4 + c5 + c6, c4 + c5 + c6 + c7, c5 + c6 + c7, c6 + c7, c7] + val8 [c4 + c5 + c6 + c7, c5 + c6 + c7, c6 + c7, c7] = val8 [c0 + c1 + c2 + c3 + c4 + c5 + c6 + c7, c1 + c2 + c3 + c4 + c5 + c6 + c7, c2 + c3 + c4 + c5 + c6 + c7, c3 + c4 + c5 + c6 + c7, c4 + c5 + c6 + c7, c5 + c6 + c7, c6 + c7, c7] by simp only [val8]; omega] at e6
  rw [e4, e5, e6, and127, low128 _ _ _ _ _ _ _ _ (by omega) (by omega)]
  simp only [sumL, List.foldr]
  congr 1
  omega
/-- Eight bytes of a number. -/
def bl8 (x : Nat) : List Nat := [x % 256, x / 256 % 256, x / 65536 % 256, x / 16777216 % 256, x / 4294967296 % 256, x / 1099511627776 % 256, x / 281474976710656 % 256, x / 72057594037927936 % 256]
theorem bl8_val (x : Nat) (h : x < 18446744073709551616) : val8 (bl8 x) = x := by
  simp only [bl8, val8]; omega
theorem bl8_bytes (x : Nat) : bytes8 (bl8 x) := by
  intro b hb
  simp only [bl8, List.mem_cons, List.not_mem_nil, or_false] at hb
  omega
theorem ones_bytes (x : Nat) (h : x < 18446744073709551616) : ones64 (x : Int) = ((sumL ((bl8 x).map pop) : Nat) : Int) := by
  have hl := bl8_bytes x
  have hv := bl8_val x h
  have len : (bl8 x).length = 8 := rfl
  have m1 : masks 85 (bl8 x) = 6148914691236517205 := by simp [masks, bl8, val8]
  have m2 : masks 51 ((bl8 x).map f1) = 3689348814741910323 := by simp [masks, bl8, val8]
  have m3 : masks 15 (((bl8 x).map f1).map f2) = 1085102592571150095 := by simp [masks, bl8, val8]
  have s1 := stage1 (bl8 x) hl
  have b1 : bytes8 ((bl8 x).map f1) := by
    intro b hb
    obtain ⟨c, hc, rfl⟩ := List.mem_map.1 hb
    exact f1_lt c (hl c hc)
  have s2 := stage2 _ b1
  have b2 : bytes8 (((bl8 x).map f1).map f2) := by
    intro b hb
    obtain ⟨c, hc, rfl⟩ := List.mem_map.1 hb
    exact f2_lt c (b1 c hc)
  have b2' : ∀ b ∈ ((bl8 x).map f1).map f2, b ≤ 68 ∧ b % 16 ≤ 4 := by
    intro b hb
    obtain ⟨c, hc, rfl⟩ := List.mem_map.1 hb
    obtain ⟨d, hd, rfl⟩ := List.mem_map.1 hc
    exact f12_le d (hl d hd)
  have s3 := stage3 _ b2'
  have v1 := val8_lt _ b1
  have v2 := val8_lt _ b2
  rw [List.length_map, len] at v1
  rw [List.length_map, List.length_map, len] at v2
  rw [m1, hv] at s1
  rw [m2] at s2
  rw [m3] at s3
  have e1 : o1 (x : Int) = ((val8 ((bl8 x).map f1) : Nat) : Int) := by
    unfold o1
    rw [show (6148914691236517205 : Int) = ((6148914691236517205 : Nat) : Int) from rfl, show ((x : Int) / 2) = ((x / 2 : Nat) : Int) by simp, band _ _ (by omega) (by omega), band _ _ h (by omega), ← s1, ← Int.natCast_add]
    exact wrapU _ (by rw [s1]; omega)
  obtain ⟨l1, hl1⟩ : ∃ l1, l1 = (bl8 x).map f1 := ⟨_, rfl⟩
  rw [← hl1] at m2 m3 s1 s2 s3 b1 b2 b2' v1 v2 e1
  have hl2len : (l1.map f2).length = 8 := by rw [hl1, List.length_map, List.length_map]; rfl
  have e2 : o2 ((val8 l1 : Nat) : Int) = ((val8 (l1.map f2) : Nat) : Int) := by
    unfold o2
    rw [show (3689348814741910323 : Int) = ((3689348814741910323 : Nat) : Int) from rfl, show (((val8 l1 : Nat) : Int) / 4) = ((val8 l1 / 4 : Nat) : Int) by simp, band _ _ (by omega) (by omega), band _ _ (by omega) (by omega), ← s2, ← Int.natCast_add]
    exact wrapU _ (by rw [s2]; omega)
  have hf12 : l1.map f2 = (bl8 x).map fun b => f2 (f1 b) := by rw [hl1, List.map_map]; rfl
  have hpop : (l1.map f2).map f3 = (bl8 x).map pop := by rw [hf12, List.map_map]; rfl
  rw [hpop] at s3
  generalize l1.map f2 = l2 at *
  have c8 : ∀ b ∈ (bl8 x).map pop, b ≤ 8 := by
    intro b hb
    obtain ⟨c, hc, rfl⟩ := List.mem_map.1 hb
    exact pop_le c (hl c hc)
  have b3 : bytes8 ((bl8 x).map pop) := fun b hb => by have := c8 b hb; omega
  have v3 := val8_lt _ b3
  rw [List.length_map, len] at v3
  have e3 : o3 ((val8 l2 : Nat) : Int) = ((val8 ((bl8 x).map pop) : Nat) : Int) := by
    unfold o3
    have hw : val8 l2 / 16 + val8 l2 < 18446744073709551616 := by
      have := low_top l2 b2' hl2len
      omega
    rw [show (1085102592571150095 : Int) = ((1085102592571150095 : Nat) : Int) from rfl, show (((val8 l2 : Nat) : Int) / 16) = ((val8 l2 / 16 : Nat) : Int) by simp, ← Int.natCast_add, wrapU _ hw, band _ _ hw (by omega), s3]
  have hx8 : (bl8 x).map pop = [pop (x % 256), pop (x / 256 % 256), pop (x / 65536 % 256), pop (x / 16777216 % 256), pop (x / 4294967296 % 256), pop (x / 1099511627776 % 256), pop (x / 281474976710656 % 256), pop (x / 72057594037927936 % 256)] := rfl
  unfold ones64
  rw [e1, e2, e3]
  rw [hx8] at c8 ⊢
  generalize pop (x % 256) = c0 at *
  generalize pop (x / 256 % 256) = c1 at *
  generalize pop (x / 65536 % 256) = c2 at *
  generalize pop (x / 16777216 % 256) = c3 at *
  generalize pop (x / 4294967296 % 256) = c4 at *
  generalize pop (x / 1099511627776 % 256) = c5 at *
  generalize pop (x / 281474976710656 % 256) = c6 at *
  generalize pop (x / 72057594037927936 % 256) = c7 at *
  simp only [List.mem_cons, List.not_mem_nil, or_false, forall_eq_or_imp, forall_eq] at c8
  exact ones_tail c0 c1 c2 c3 c4 c5 c6 c7 c8

/-! ### How many bits are set -/
def cntB (f : Nat → Bool) : Nat → Nat
  | 0 => 0
  | n + 1 => cntB f n + if f n = true then 1 else 0
theorem cntB_congr {f g : Nat → Bool} : ∀ n, (∀ i, i < n → f i = g i) → cntB f n = cntB g n
  | 0, _ => rfl
  | n + 1, h => by unfold cntB; rw [cntB_congr n (fun i hi => h i (by omega)), h n (by omega)]
theorem cntB_add (f : Nat → Bool) (n : Nat) : ∀ m, cntB f (n + m) = cntB f n + cntB (fun i => f (n + i)) m
  | 0 => rfl
  | m + 1 => by
    show cntB f (n + m) + (if f (n + m) = true then 1 else 0) = _
    rw [cntB_add f n m]
    simp only [cntB]
    omega
theorem cntB_le (f : Nat → Bool) : ∀ n, cntB f n ≤ n
  | 0 => Nat.le_refl _
  | n + 1 => by
    have := cntB_le f n
    unfold cntB
    split <;> omega
theorem cntB_one {f g : Nat → Bool} {u : Nat} (hf : f u = true) (hg : g u = false) (h : ∀ i, i ≠ u → f i = g i) : ∀ n, cntB f n = cntB g n + if u < n then 1 else 0
  | 0 => rfl
  | n + 1 => by
    have ih := cntB_one hf hg h n
    unfold cntB
    rw [ih]
    by_cases e : u = n
    · subst e
      rw [hf, hg]
      simp
    · rw [h n (Ne.symm e)]
      by_cases q : u < n
      · rw [if_pos q, if_pos (show u < n + 1 by omega)]; omega
      · rw [if_neg q, if_neg (show ¬ u < n + 1 by omega)]; omega
theorem pop_cnt : ∀ b, b < 256 → pop b = cntB (fun i => b.testBit i) 8 := by decide +kernel
theorem byte_bit (x k i : Nat) (hi : i < 8) : (x / 2 ^ k % 256).testBit i = x.testBit (k + i) := by
  rw [show 256 = 2 ^ 8 from rfl, Nat.testBit_mod_two_pow, Nat.testBit_div_two_pow]
  simp [hi, Nat.add_comm]
theorem byte_cnt (x k : Nat) : pop (x / 2 ^ k % 256) = cntB (fun i => x.testBit (k + i)) 8 := by
  rw [pop_cnt _ (Nat.mod_lt _ (by omega))]
  exact cntB_congr 8 fun i hi => byte_bit x k i hi
theorem ones_cntN (x : Nat) (h : x < 18446744073709551616) : ones64 (x : Int) = ((cntB (fun i => x.testBit i) 64 : Nat) : Int) := by
  rw [ones_bytes x h]
  congr 1
  have b0 := byte_cnt x 0
  have b1 : pop (x / 256 % 256) = _ := byte_cnt x 8
  have b2 : pop (x / 65536 % 256) = _ := byte_cnt x 16
  have b3 : pop (x / 16777216 % 256) = _ := byte_cnt x 24
  have b4 : pop (x / 4294967296 % 256) = _ := byte_cnt x 32
  have b5 : pop (x / 1099511627776 % 256) = _ := byte_cnt x 40
  have b6 : pop (x / 281474976710656 % 256) = _ := byte_cnt x 48
  have b7 : pop (x / 72057594037927936 % 256) = _ := byte_cnt x 56
  simp only [Nat.zero_add] at b0
  rw [show x / 2 ^ 0 % 256 = x % 256 by simp] at b0
  have a1 := cntB_add (fun i => x.testBit i) 8 8
  have a2 := cntB_add (fun i => x.testBit i) 16 8
  have a3 := cntB_add (fun i => x.testBit i) 24 8
  have a4 := cntB_add (fun i => x.testBit i) 32 8
  have a5 := cntB_add (fun i => x.testBit i) 40 8
  have a6 := cntB_add (fun i => x.testBit i) 48 8
  have a7 := cntB_add (fun i => x.testBit i) 56 8
  simp only [Nat.reduceAdd] at a1 a2 a3 a4 a5 a6 a7
  rw [a7, a6, a5, a4, a3, a2, a1, ← b0, ← b1, ← b2, ← b3, ← b4, ← b5, ← b6, ← b7]
  simp only [bl8, List.map, sumL, List.foldr]
  omega
theorem wrap_nat (a : Int) : IntKind.u64.wrap a = (((BitVec.ofInt 64 a).toNat : Nat) : Int) := by
  rw [BitVec.toNat_ofInt]
  simp [IntKind.wrap, IntKind.bits, IntKind.signed]
  omega
theorem ones_cnt (a : Int) : ones64 (IntKind.u64.wrap a) = ((cntB (bitB a) 64 : Nat) : Int) := by
  rw [wrap_nat, ones_cntN _ (BitVec.ofInt 64 a).isLt]
  rfl
theorem ones_unmark (a : Int) (u : Nat) (hu : u < 64) (h : usedI a u = true) : ones64 (IntKind.u64.wrap (unmarkN a u)) = ones64 (IntKind.u64.wrap a) - 1 := by
  rw [ones_cnt, ones_cnt]
  have hb : bitB a u = true := by rw [← used_bit a u hu]; exact h
  have hc : ∀ i, i < 64 → bitB (unmarkN a u) i = (bitB a i && !decide (u = i)) := fun i hi => bit_unmark a u i hi
  have h2 := cntB_congr 64 hc
  have h1 := cntB_one (f := bitB a) (g := fun i => bitB a i && !decide (u = i)) (u := u) hb (by simp) (fun i hi => by simp [Ne.symm hi]) 64
  rw [if_pos hu] at h1
  rw [h2]
  omega
theorem ones_mark (a : Int) (u : Nat) (hu : u < 64) (h : usedI a u = false) : ones64 (IntKind.u64.wrap (markI a u)) = ones64 (IntKind.u64.wrap a) + 1 := by
  rw [ones_cnt, ones_cnt]
  have hb : bitB a u = false := by rw [← used_bit a u hu]; exact h
  have hc : ∀ i, i < 64 → bitB (markI a u) i = (bitB a i || decide (u = i)) := fun i hi => bit_mark a u i hi
  have h2 := cntB_congr 64 hc
  have h1 := cntB_one (f := fun i => bitB a i || decide (u = i)) (g := bitB a) (u := u) (by simp) hb (fun i hi => by simp [Ne.symm hi]) 64
  rw [if_pos hu] at h1
  rw [h2]
  omega
theorem ones_bounds (a : Int) : 0 ≤ ones64 (IntKind.u64.wrap a) ∧ ones64 (IntKind.u64.wrap a) ≤ 64 := by
  rw [ones_cnt]
  have := cntB_le (bitB a) 64
  omega
theorem ones_zero : ones64 0 = 0 := by decide +kernel
theorem some_free (a : Int) (h : 0 < ones64 (IntKind.u64.wrap a)) : (IntKind.u64.wrap a == 0) = false := by
  apply beq_eq_false_iff_ne.2
  intro q
  rw [q, ones_zero] at h
  omega

/-! ### The bit that TrailingZeros64 tells -/
theorem low_bit (t m n : Nat) (hn : 1 ≤ n) (hm : 2 * m + 1 < 2 ^ n) : (2 ^ t * (2 * m + 1)) &&& (2 ^ t * (2 ^ n - (2 * m + 1))) = 2 ^ t := by
  apply Nat.eq_of_testBit_eq
  intro i
  rw [Nat.testBit_and, Nat.testBit_two_pow_mul, Nat.testBit_two_pow_mul, Nat.testBit_two_pow]
  by_cases h : t ≤ i
  · rw [Nat.testBit_two_pow_sub_succ (by omega)]
    obtain ⟨k, rfl⟩ : ∃ k, i = t + k := ⟨i - t, by omega⟩
    rw [show t + k - t = k by omega]
    cases k with
    | zero =>
      rw [Nat.testBit_zero, Nat.testBit_zero]
      simp
      omega
    | succ k =>
      rw [Nat.testBit_succ, Nat.testBit_succ, show (2 * m + 1) / 2 = m by omega, show 2 * m / 2 = m by omega]
      cases m.testBit k <;> simp
  · simp [h]; omega
theorem odd_part : ∀ x : Nat, 0 < x → ∃ t m, x = 2 ^ t * (2 * m + 1) := by
  intro x
  induction x using Nat.strongRecOn with
  | _ x ih =>
    intro hx
    by_cases h : x % 2 = 1
    · exact ⟨0, x / 2, by simp; omega⟩
    · obtain ⟨t, m, e⟩ := ih (x / 2) (by omega) (by omega)
      exact ⟨t + 1, m, by rw [Nat.pow_succ, Nat.mul_comm (2 ^ t) 2, Nat.mul_assoc, ← e]; omega⟩
theorem db_at : ∀ t : Nat, t < 64 → dbL.getD (IntKind.u64.wrap ((2 ^ t : Nat) * 285870213051353865) / 288230376151711744).toNat 0 = t := by decide +kernel
theorem tz_two (t m : Nat) (h : 2 ^ t * (2 * m + 1) < 18446744073709551616) : t < 64 ∧ tz64 ((2 ^ t * (2 * m + 1) : Nat) : Int) = (t : Int) := by
  have ht : t < 64 := by
    rcases Nat.lt_or_ge t 64 with q | q
    · exact q
    · have h1 : 2 ^ 64 ≤ 2 ^ t := Nat.pow_le_pow_right (by omega) q
      have h2 : 2 ^ t ≤ 2 ^ t * (2 * m + 1) := Nat.le_mul_of_pos_right _ (by omega)
      omega
  refine ⟨ht, ?_⟩
  have hp : 2 ^ t * 2 ^ (64 - t) = 18446744073709551616 := by rw [← Nat.pow_add, show t + (64 - t) = 64 by omega]
  have hm : 2 * m + 1 < 2 ^ (64 - t) := by
    refine Nat.lt_of_mul_lt_mul_left (a := 2 ^ t) ?_
    rw [hp]; exact h
  have hpos : 0 < 2 ^ t := Nat.pow_pos (by omega)
  have hlb := low_bit t m (64 - t) (by omega) hm
  have hsub : 2 ^ t * (2 ^ (64 - t) - (2 * m + 1)) = 18446744073709551616 - 2 ^ t * (2 * m + 1) := by rw [Nat.mul_sub, hp]
  rw [hsub] at hlb
  have hx : 0 < 2 ^ t * (2 * m + 1) := Nat.mul_pos hpos (by omega)
  unfold tz64 dbN
  generalize hX : 2 ^ t * (2 * m + 1) = X at *
  have hneg : IntKind.u64.wrap (-(X : Int)) = ((18446744073709551616 - X : Nat) : Int) := by
    simp [IntKind.wrap, IntKind.bits, IntKind.signed]
    omega
  rw [hneg, band _ _ h (by omega), hlb]
  exact db_at t ht
theorem tz_used (a : Int) (h : (IntKind.u64.wrap a == 0) = false) : ∃ u : Nat, u < 64 ∧ tz64 (IntKind.u64.wrap a) = (u : Int) ∧ usedI a u = true ∧ ∀ i, i < u → usedI a i = false := by
  have hne := beq_eq_false_iff_ne.1 h
  have hlt := (BitVec.ofInt 64 a).isLt
  obtain ⟨t, m, e⟩ := odd_part (BitVec.ofInt 64 a).toNat (by
    rcases Nat.eq_zero_or_pos (BitVec.ofInt 64 a).toNat with q | q
    · exact absurd (by rw [wrap_nat, q]; rfl) hne
    · exact q)
  have hlt' : 2 ^ t * (2 * m + 1) < 18446744073709551616 := by rw [← e]; exact hlt
  obtain ⟨ht, hz⟩ := tz_two t m hlt'
  refine ⟨t, ht, by rw [wrap_nat, e]; exact hz, ?_, fun i hi => ?_⟩
  · rw [used_bit a t ht]
    unfold bitB
    rw [← BitVec.testBit_toNat, e, Nat.testBit_two_pow_mul, Nat.sub_self, Nat.testBit_zero]
    simp
  · rw [used_bit a i (by omega)]
    unfold bitB
    rw [← BitVec.testBit_toNat, e, Nat.testBit_two_pow_mul]
    simp; omega
end Go.Proofs.YtfcgkjbifnhjjaaGreatDoor.St
