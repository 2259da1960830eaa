/- The two stores and a view, as one fact that each call keeps; the contracts of inode in that form. The contracts of package proc: table, key, get, State, New, over a view in memory. The contracts of math/bits.OnesCount64 and of space's keys. No condition but those written in each statement. -/
import Derived.Test.YtfcgkjbifnhjjaaGreatDoorQ53
import Derived.Test.YtfcgkjbifnhjjaaGreatDoorQ59
import Derived.Test.YtfcgkjbifnhjjaaGreatDoorTextQ
import Derived.Deep.Cut
import Derived.Deep.RegionWith
import Derived.Lib.Hide
namespace Go.Proofs.YtfcgkjbifnhjjaaGreatDoor.St
open Go.RowKit
set_option linter.unusedVariables false

structure Std (w : World) (t : Nat) (L : Lay) (d q : Nat) (st : VSt) (W : World) : Prop where
  v : ViewAt W L st
  t : TwoAt W t L.s L.v d q
  b : Below w.heap.size w W
  r : w.heap.size ≤ L.r
  m : w.heap.size ≤ L.m

abbrev Maps (L : Lay) (W W' : World) : Prop := Turn (fun k => k = L.r ∨ k = L.m) W W'

theorem Std.cell {w W : World} {t : Nat} {L : Lay} {d q : Nat} {st : VSt} (S : Std w t L d q st W) : W.cell? ⟨t, 1, none⟩ = some (.pointer (some ⟨L.v, 0, none⟩)) := by
  have c := cell_of_row W t 1 _ _ _ S.t
  simpa using c

theorem Std.other {w W W' : World} {t : Nat} {L : Lay} {d q : Nat} {st : VSt} (S : Std w t L d q st W) (h : Maps L W W') {b : Nat} {c : Array Value} {ty : TypeId} {fz : Nat × Nat} (hT : blk W b = some (.cells c ty fz)) : blk W' b = some (.cells c ty fz) := by
  obtain ⟨_, _, hr, _⟩ := S.v.cr
  obtain ⟨_, _, hm, _⟩ := S.v.cm
  have n1 := cells_ne_map hT hr
  have n2 := cells_ne_map hT hm
  exact blk_of_turn h hT (by omega)

theorem Std.step {w W W' : World} {t : Nat} {L : Lay} {d q : Nat} {st st' : VSt} (S : Std w t L d q st W) (hv : ViewAt W' L st') (h : Maps L W W') : Std w t L d q st' W' :=
  ⟨hv, S.other h S.t, S.b.trans (h.below (B := w.heap.size) S.b.size (fun i p => by have := S.r; have := S.m; omega)), S.r, S.m⟩

/-- Nothing that stands is touched. -/
theorem Std.below {w W W' : World} {t : Nat} {L : Lay} {d q : Nat} {st : VSt} (S : Std w t L d q st W) (h : Below W.heap.size W W') : Std w t L d q st W' :=
  ⟨S.v.below h, blk_below h S.t (blk_lt S.t), S.b.trans (h.mono S.b.size), S.r, S.m⟩
theorem Std.drewN {w W : World} {t : Nat} {L : Lay} {d q : Nat} {st : VSt} (S : Std w t L d q st W) (n : Nat) : Std w t L d q st (W.drewN n) :=
  ⟨S.v.drewN n, (blk_drewN _ _ _).trans S.t, below_drewN S.b n, S.r, S.m⟩
theorem Std.drew {w W : World} {t : Nat} {L : Lay} {d q : Nat} {st : VSt} (S : Std w t L d q st W) : Std w t L d q st W.drew := S.drewN 1

section
variable {w W : World} {t : Nat} {L : Lay} {d q : Nat} {st : VSt}

theorem s_alloc (S : Std w t L d q st W) (x : Int) : Calls Tryz.prog 99 #[.pointer (some ⟨L.v, 0, none⟩), .int .i64 x] W fun e W' => e = .returned (.tuple #[.int .i64 (iGot st), .bool (decide (iFree st < 16))]) ∧ Std w t L d q (iAlloc st x) W' ∧ Maps L W W' :=
  (ialloc_any L st x W S.v).mono fun e W' ⟨a, b, c⟩ => ⟨a, S.step b c, c⟩
theorem s_is (S : Std w t L d q st W) (i : Int) : Calls Tryz.prog 88 #[.pointer (some ⟨L.v, 0, none⟩), .int .i64 i] W fun e W' => e = .returned (.bool (iHas st i)) ∧ Std w t L d q (iSaw st i) W' ∧ Maps L W W' :=
  (iis_any L st i W S.v).mono fun e W' ⟨a, b, c⟩ => ⟨a, S.step b (c.mono fun _ _ => Or.inl), c.mono fun _ _ => Or.inl⟩
theorem s_type (S : Std w t L d q st W) {i t' l h : Int} {s : ByteArray} (H : Holds st i t' l h s) (ht : t' ≠ 0) (h1 : 1 ≤ i) (h2 : i < 16) : Calls Tryz.prog 93 #[.pointer (some ⟨L.v, 0, none⟩), .int .i64 i] W fun e W' => e = .returned (.int .i64 t') ∧ Std w t L d q (iSaw st i) W' ∧ Maps L W W' :=
  (htype L H ht h1 h2 W S.v).mono fun e W' ⟨a, b, c⟩ => ⟨a, S.step b (c.mono fun _ _ => Or.inl), c.mono fun _ _ => Or.inl⟩
theorem s_size (S : Std w t L d q st W) (i : Int) : Calls Tryz.prog 125 #[.pointer (some ⟨L.v, 0, none⟩), .int .i64 i] W fun e W' => e = .returned (.int .i64 (iVal st i).s.size) ∧ Std w t L d q (iSaw st i) W' ∧ Maps L W W' :=
  (isize_any L st i W S.v).mono fun e W' ⟨a, b, c⟩ => ⟨a, S.step b (c.mono fun _ _ => Or.inl), c.mono fun _ _ => Or.inl⟩
theorem s_read (S : Std w t L d q st W) (i off n : Int) (hs : ((iVal st i).s.size : Int) ≤ 140737488351232) : Calls Tryz.prog 133 #[.pointer (some ⟨L.v, 0, none⟩), .int .i64 i, .int .i64 off, .int .i64 n] W fun e W' => e = .returned (.string (iRead st i off n)) ∧ Std w t L d q (iSaw st i) W' ∧ Maps L W W' :=
  (iread_any L st i off n hs W S.v).mono fun e W' ⟨a, b, c⟩ => ⟨a, S.step b (c.mono fun _ _ => Or.inl), c.mono fun _ _ => Or.inl⟩
theorem s_write (S : Std w t L d q st W) (i off : Int) (D : ByteArray) (hs : ((iVal st i).s.size : Int) ≤ 140737488351232) (hd : (D.size : Int) ≤ 140737488351232) : Calls Tryz.prog 126 #[.pointer (some ⟨L.v, 0, none⟩), .int .i64 i, .int .i64 off, .string D] W fun e W' => e = .returned (.int .i64 (iWrote st i off D)) ∧ Std w t L d q (iWrite st i off D) W' ∧ Maps L W W' :=
  (iwrite_any L st i off D hs hd W S.v).mono fun e W' ⟨a, b, c⟩ => ⟨a, S.step b c, c⟩
end
end Go.Proofs.YtfcgkjbifnhjjaaGreatDoor.St

namespace Go.Proofs.YtfcgkjbifnhjjaaGreatDoor.St
open Go.RowKit
set_option linter.unusedVariables false

attribute [local go_sem] blk_alloc_at blk_alloc_past blk_drew blk_drewN blk_setB_same blk_setB_other blk_setRow_other setRow_alloc_at setRow_alloc_past setRow_drewN setRow_drew setB_size setB_cell setB_frozen setB_alloc_past setB_drewN setB_drew run_loadV loadOr_cells run_storeV storeOr_cells cells_size ones_cells cells_0 cells_1 cells_2 cells_16 cells_g0 cells_g1 cells_g2 cells_g16 cells_set0 cells_set1 cells_set2 cells_text
attribute [local go_sem ↓] execOp_loadV execOp_storeV
attribute [local go_sem ↓] wp_at0 wp_at1 wp_at2 wp_at3 wp_at4 wp_at5 wp_at6 wp_at7
attribute [local go_sem] run_fieldN run_indexN

theorem qkey_any (i : Int) (w : World) :
    Calls Tryz.prog 104 #[.int .i64 i] w fun e w' => e = .returned (keyV 4 i) ∧ Below w.heap.size w w' := by
  go_enter Tryz.func104, Tryz.ntmps104
  go_wp2_with fail
  exact bodyPost_key (b := w.heap.size) rfl rfl rfl (heap_alloc_new _ _) rfl ⟨rfl, (Below.refl _ _).alloc (Nat.le_refl _) _⟩
theorem qtable_any (w : World) :
    Calls Tryz.prog 103 #[] w fun e w' => e = .returned (keyV 3 0) ∧ Below w.heap.size w w' := by
  go_enter Tryz.func103, Tryz.ntmps103
  go_wp2_with fail
  exact bodyPost_key (b := w.heap.size) rfl rfl rfl (heap_alloc_new _ _) rfl ⟨rfl, (Below.refl _ _).alloc (Nat.le_refl _) _⟩

theorem and1 (y : Int) : bits .and .i64 y 1 = y % 2 := by
  show IntKind.i64.wrap (((BitVec.ofInt 64 y) &&& (BitVec.ofInt 64 1)).toNat : Int) = _
  have h1 : (BitVec.ofInt 64 1).toNat = 2 ^ 1 - 1 := by decide
  rw [BitVec.toNat_and, h1, Nat.and_two_pow_sub_one_eq_mod, BitVec.toNat_ofInt, wrap_i64]
  unfold wrap64; omega
theorem used_not (x : Int) (j : Nat) : (bits .and .i64 (x / 2 ^ j) 1 == 0) = !usedI x j := by
  unfold usedI
  rw [and1]
  generalize x / 2 ^ j = y
  by_cases h : y % 2 = 0
  · rw [h]; rfl
  · rw [show y % 2 = 1 by omega]; rfl

/-- Is a process's place used; what was read to know it. -/
def qUsed (st : VSt) (p : Int) : Bool := if p < 0 ∨ 8 ≤ p then false else usedI ((st.get 3 0).n 0) p.toNat
/-- A process, or the zero value. -/
def qVal (st : VSt) (p : Int) : Val := if qUsed st p = true then st.get 4 p else Val.zero
def qState (st : VSt) (p : Int) : Int := (qVal st p).n 0
def qSaw (st : VSt) (p : Int) : VSt := if p < 0 ∨ 8 ≤ p then st else if qUsed st p = true then (st.saw 3 0).saw 4 p else st.saw 3 0
theorem get_qSaw (st : VSt) (p k n : Int) : (qSaw st p).get k n = st.get k n := by
  unfold qSaw; split
  · rfl
  · split
    · rw [get_saw, get_saw]
    · exact get_saw _ _ _ _ _

theorem qget_out (L : Lay) (st : VSt) (p : Int) (h : decide (p < 0) = true ∨ decide (p < 0) = false ∧ decide (8 ≤ p) = true) (w : World) (hV : ViewAt w L st) :
    Calls Tryz.prog 71 #[.pointer (some ⟨L.v, 0, none⟩), .int .i64 p] w fun e w' => e = .returned (.tuple #[.agg Val.zero.cells, .bool false]) ∧ ViewAt w' L st ∧ Turn (· = L.r) w w' := by
  have hz := zero_val
  have lt := hV.lts
  have b0 : blk (w.alloc (Obj.cells Val.zero.cells 60)) w.heap.size = some (.cells Val.zero.cells 60 (0, 0)) := blk_alloc_at _ _ _ rfl
  have hv0 := hV.alloc (Obj.cells Val.zero.cells 60)
  have t0 := (Turn.refl (· = L.r) w).alloc (Obj.cells Val.zero.cells 60)
  rcases h with h | ⟨h1, h2⟩
  all_goals
    go_enter Tryz.func71, Tryz.ntmps71
    go_wp2_with fail
    exact bodyPost_val2 (b := w.heap.size) (c := Val.zero.cells) (t := 60) (fz := (0, 0)) rfl rfl rfl b0 (cells_size _) ⟨rfl, hv0, t0⟩

attribute [local irreducible] Int.lt Int.le
set_option maxRecDepth 20000 in
theorem qget_none (L : Lay) (st : VSt) (j : Nat) (h1 : j < 8) (hu : usedI ((st.get 3 0).n 0) j = false) (w : World) (hV : ViewAt w L st) :
    Calls Tryz.prog 71 #[.pointer (some ⟨L.v, 0, none⟩), .int .i64 j] w fun e w' => e = .returned (.tuple #[.agg Val.zero.cells, .bool false]) ∧ ViewAt w' L (st.saw 3 0) ∧ Turn (· = L.r) w w' := by
  have hz := zero_val
  have lt := hV.lts
  have g1 : decide ((j : Int) < 0) = false := decide_eq_false (by omega)
  have g2 : decide ((8 : Int) ≤ (j : Int)) = false := decide_eq_false (by omega)
  have g3 : (0 : Int) ≤ (j : Int) := by omega
  have hb := used_not ((st.get 3 0).n 0) j
  rw [hu] at hb
  have b0 : blk (w.alloc (Obj.cells Val.zero.cells 60)) w.heap.size = some (.cells Val.zero.cells 60 (0, 0)) := blk_alloc_at _ _ _ rfl
  have hv0 := hV.alloc (Obj.cells Val.zero.cells 60)
  have t0 := (Turn.refl (· = L.r) w).alloc (Obj.cells Val.zero.cells 60)
  have s0 : w.heap.size < (w.alloc (Obj.cells Val.zero.cells 60)).heap.size := by simp
  go_enter Tryz.func71, Tryz.ntmps71
  go_wp2_with fail
  generalize w.alloc (Obj.cells Val.zero.cells 60) = W0 at *
  refine (qtable_any _).mono ?_; rintro e w1 ⟨rfl, t1⟩
  have hv1 := hv0.below t1
  have b1 := blk_below t1 b0 s0
  have t1' := t0.trans (Turn.of_below t1 _)
  have s1 := t1.size
  clear hv0 t0 b0 t1
  go_wp2_with fail
  refine (vget_any L st 3 0 _ hv1).mono ?_; rintro e w2 ⟨rfl, hv2, t2⟩
  have b2 : blk w2 w.heap.size = some (.cells Val.zero.cells 60 (0, 0)) := blk_of_turn t2 b1 (by omega)
  have t2' := t1'.trans t2
  clear hv1 t1' b1 t2
  generalize st.get 3 0 = x at *
  go_wp2_with fail
  have tl : Turn (fun j => w.heap.size ≤ j) w2 (w2.setRow w.heap.size Val.zero.cells) := (Turn.refl _ _).setRow (Or.inl (Nat.le_refl _)) _
  refine bodyPost_val2 (b := w.heap.size) (c := Val.zero.cells) (t := 60) (fz := (0, 0)) rfl rfl rfl ?_ (cells_size _) ⟨rfl, hv2.off tl lt, t2'.offS tl (Nat.le_refl _)⟩
  exact setRow_heap _ _ _ _ _ _ b2
set_option maxRecDepth 20000 in
set_option maxHeartbeats 1000000 in
theorem qget_in (L : Lay) (st : VSt) (j : Nat) (h1 : j < 8) (hu : usedI ((st.get 3 0).n 0) j = true) (w : World) (hV : ViewAt w L st) :
    Calls Tryz.prog 71 #[.pointer (some ⟨L.v, 0, none⟩), .int .i64 j] w fun e w' => e = .returned (.tuple #[.agg (st.get 4 j).cells, .bool ((st.get 4 j).n 0 != 0)]) ∧ ViewAt w' L ((st.saw 3 0).saw 4 j) ∧ Turn (· = L.r) w w' := by
  have hz := zero_val
  have lt := hV.lts
  have g1 : decide ((j : Int) < 0) = false := decide_eq_false (by omega)
  have g2 : decide ((8 : Int) ≤ (j : Int)) = false := decide_eq_false (by omega)
  have g3 : (0 : Int) ≤ (j : Int) := by omega
  have hb := used_not ((st.get 3 0).n 0) j
  rw [hu] at hb
  have b0 : blk (w.alloc (Obj.cells Val.zero.cells 60)) w.heap.size = some (.cells Val.zero.cells 60 (0, 0)) := blk_alloc_at _ _ _ rfl
  have hv0 := hV.alloc (Obj.cells Val.zero.cells 60)
  have t0 := (Turn.refl (· = L.r) w).alloc (Obj.cells Val.zero.cells 60)
  have s0 : w.heap.size < (w.alloc (Obj.cells Val.zero.cells 60)).heap.size := by simp
  go_enter Tryz.func71, Tryz.ntmps71
  go_wp2_with fail
  generalize w.alloc (Obj.cells Val.zero.cells 60) = W0 at *
  refine (qtable_any _).mono ?_; rintro e w1 ⟨rfl, t1⟩
  have hv1 := hv0.below t1
  have b1 := blk_below t1 b0 s0
  have t1' := t0.trans (Turn.of_below t1 _)
  have s1 := t1.size
  clear hv0 t0 b0 t1
  go_wp2_with fail
  refine (vget_any L st 3 0 _ hv1).mono ?_; rintro e w2 ⟨rfl, hv2, t2⟩
  have b2 : blk w2 w.heap.size = some (.cells Val.zero.cells 60 (0, 0)) := blk_of_turn t2 b1 (by omega)
  have t2' := t1'.trans t2
  have s2 := t2.size
  clear hv1 t1' b1 t2
  generalize hX : st.get 3 0 = X at *
  go_wp2_with fail
  clear hb hX hu
  refine (qkey_any j _).mono ?_; rintro e w3 ⟨rfl, t3⟩
  have hv3 := hv2.below t3
  have b3 := blk_below t3 b2 (by omega)
  have t3' := t2'.trans (Turn.of_below t3 _)
  have s3 := t3.size
  clear hv2 b2 t2' t3
  go_wp2_with fail
  refine (vget_any L (st.saw 3 0) 4 j _ hv3).mono ?_; rw [get_saw]; rintro e w4 ⟨rfl, hv4, t4⟩
  have b4 : blk w4 w.heap.size = some (.cells Val.zero.cells 60 (0, 0)) := blk_of_turn t4 b3 (by omega)
  have t4' := t3'.trans t4
  have s4 := t4.size
  clear hv3 b3 t3' t4
  generalize hx : st.get 4 j = x at *
  go_upto_region 4 with fail
  have b5 := blk_below ((Below.refl w4.heap.size w4).alloc (Nat.le_refl _) (Obj.cells x.cells 60)) b4 (by omega)
  have c5 : blk (w4.alloc (Obj.cells x.cells 60)) w4.heap.size = some (.cells x.cells 60 (0, 0)) := blk_alloc_at _ _ _ rfl
  have hv5 := hv4.alloc (Obj.cells x.cells 60)
  have t5 := t4'.alloc (Obj.cells x.cells 60)
  generalize w4.alloc (Obj.cells x.cells 60) = W5 at *
  have hne : w.heap.size ≠ w4.heap.size := by omega
  generalize w4.heap.size = C at *
  clear hv4 b4 t4'
  have b5d : blk W5.drew w.heap.size = some (.cells Val.zero.cells 60 (0, 0)) := (blk_drew _ _).trans b5
  have c5d : blk W5.drew C = some (.cells x.cells 60 (0, 0)) := (blk_drew _ _).trans c5
  have d0 : W5.drew.cell? ⟨C, 0, none⟩ = some (.int .i64 (x.n 0)) := cell_of_row _ _ 0 _ _ _ c5d
  have e5 : blk (W5.drew.setRow w.heap.size x.cells) C = some (.cells x.cells 60 (0, 0)) := by rw [blk_setRow_other _ _ _ _ (Ne.symm hne)]; exact c5d
  have d1 : (W5.drew.setRow w.heap.size x.cells).cell? ⟨C, 0, none⟩ = some (.int .i64 (x.n 0)) := cell_of_row _ _ 0 _ _ _ e5
  have d2 : (W5.setRow w.heap.size x.cells).cell? ⟨C, 0, none⟩ = some (.int .i64 (x.n 0)) := d1
  have d3 : W5.cell? ⟨C, 0, none⟩ = some (.int .i64 (x.n 0)) := d0
  have d4 : (W5.setRow w.heap.size x.cells).drew.cell? ⟨C, 0, none⟩ = some (.int .i64 (x.n 0)) := d1
  go_region_with (fail)
  all_goals
    clear d0 d1 d2 d3 d4 e5 c5d
    go_wp2_with fail
    have tl : Turn (fun j => w.heap.size ≤ j) W5.drew (W5.drew.setRow w.heap.size x.cells) := (Turn.refl _ _).setRow (Or.inl (Nat.le_refl _)) _
    have hv6 : ViewAt W5.drew L ((st.saw 3 0).saw 4 j) := hv5.drewN 1
    refine bodyPost_val2 (b := w.heap.size) (c := x.cells) (t := 60) (fz := (0, 0)) rfl rfl rfl ?_ (cells_size _) ⟨by rw [hx]; rfl, hv6.off tl lt, t5.drew.offS tl (Nat.le_refl _)⟩
    exact setRow_heap _ _ _ _ _ _ b5d
theorem qget_any (L : Lay) (st : VSt) (p : Int) (w : World) (hV : ViewAt w L st) :
    Calls Tryz.prog 71 #[.pointer (some ⟨L.v, 0, none⟩), .int .i64 p] w fun e w' => (∃ b, e = .returned (.tuple #[.agg (qVal st p).cells, .bool b])) ∧ ViewAt w' L (qSaw st p) ∧ Turn (· = L.r) w w' := by
  unfold qVal qSaw qUsed
  by_cases h : p < 0 ∨ 8 ≤ p
  · rw [if_pos h, if_pos h, if_neg (by decide)]
    refine (qget_out L st p ?_ w hV).mono fun e w' ⟨a, b, c⟩ => ⟨⟨_, a⟩, b, c⟩
    by_cases h0 : p < 0
    · exact Or.inl (decide_eq_true h0)
    · exact Or.inr ⟨decide_eq_false h0, decide_eq_true (by omega)⟩
  · rw [if_neg h, if_neg h]
    obtain ⟨j, rfl⟩ := Int.eq_ofNat_of_zero_le (show 0 ≤ p by omega)
    rw [show ((j : Nat) : Int).toNat = j from rfl]
    cases hu : usedI ((st.get 3 0).n 0) j with
    | false => rw [if_neg (by decide), if_neg (by decide)]; exact (qget_none L st j (by omega) hu w hV).mono fun e w' ⟨a, b, c⟩ => ⟨⟨_, a⟩, b, c⟩
    | true => rw [if_pos rfl, if_pos rfl]; exact (qget_in L st j (by omega) hu w hV).mono fun e w' ⟨a, b, c⟩ => ⟨⟨_, a⟩, b, c⟩
theorem qstate_any (L : Lay) (st : VSt) (p : Int) (w : World) (hV : ViewAt w L st) :
    Calls Tryz.prog 28 #[.pointer (some ⟨L.v, 0, none⟩), .int .i64 p] w fun e w' => e = .returned (.int .i64 (qState st p)) ∧ ViewAt w' L (qSaw st p) ∧ Turn (· = L.r) w w' := by
  have hz := zero_val
  obtain ⟨x, hx⟩ : ∃ x, x = qVal st p := ⟨_, rfl⟩
  rw [show qState st p = x.n 0 by rw [hx]; rfl]
  have Hx := Lib.hid hx
  clear hx
  go_enter Tryz.func28, Tryz.ntmps28
  go_wp2_with fail
  refine (qget_any L st p w hV).mono ?_; rw [← Hx.out]; rintro e w1 ⟨⟨b, rfl⟩, hv1, t1⟩
  clear Hx
  go_wp2_with fail
  go_ret
  exact ⟨rfl, hv1.alloc _, t1.alloc _⟩

/-! ### proc.New -/
def freeQ (x : Int) : Nat → Nat
  | 0 => 8
  | d + 1 => if usedI x (7 - d) = true then freeQ x d else 7 - d
def qFree (st : VSt) : Nat := freeQ ((st.get 3 0).n 0) 8
def qTab (x : Val) (j : Nat) : Val := (x.set 0 (markI (x.n 0) j)).set 1 (wrap64 (x.n 1 + 1))
def qNew (by' id : Int) : Val := ((Val.zero.set 0 1).set 1 (wrap64 (by' + 1))).set 2 id
def qTake (st : VSt) (j : Nat) (by' : Int) : VSt := ((st.saw 3 0).put 3 0 (qTab (st.get 3 0) j)).put 4 j (qNew by' (wrap64 ((st.get 3 0).n 1 + 1)))
def qAlloc (st : VSt) (by' : Int) : VSt := if qFree st < 8 then qTake st (qFree st) by' else st.saw 3 0
def qNum (st : VSt) : Int := if qFree st < 8 then (qFree st : Int) else 0
theorem freeQ_hit (x : Int) (j : Nat) (h : j < 8) (hb : usedI x j = false) : freeQ x (8 - j) = j := by
  have e : 8 - j = (7 - j) + 1 := by omega
  rw [e, freeQ, show 7 - (7 - j) = j by omega, hb]
  rfl
theorem freeQ_past (x : Int) (j : Nat) (h : j < 8) (hb : usedI x j = true) : freeQ x (8 - j) = freeQ x (8 - (j + 1)) := by
  have e : 8 - j = (7 - j) + 1 := by omega
  rw [e, freeQ, show 7 - (7 - j) = j by omega, if_pos hb, show 8 - (j + 1) = 7 - j by omega]
set_option maxRecDepth 20000 in
set_option maxHeartbeats 1000000 in
theorem qnew_any (L : Lay) (st : VSt) (bb : Int) (hbb : -1 ≤ bb ∧ bb ≤ 1000) (w : World) (hV : ViewAt w L st) :
    Calls Tryz.prog 83 #[.pointer (some ⟨L.v, 0, none⟩), .int .i64 bb] w fun e w' => e = .returned (.tuple #[.int .i64 (qNum st), .bool (decide (qFree st < 8))]) ∧ ViewAt w' L (qAlloc st bb) ∧ Turn (fun k => k = L.r ∨ k = L.m) w w' := by
  have lt := hV.lts
  have hz := zero_val
  go_enter Tryz.func83, Tryz.ntmps83
  go_wp2_with fail
  refine (qtable_any _).mono ?_; rintro e w1 ⟨rfl, t1⟩
  have hv1 := hV.below t1
  go_wp2_with fail
  refine (vget_any L st 3 0 _ hv1).mono ?_; rintro e w2 ⟨rfl, hv2, t2⟩
  have t2' := (Turn.of_below t1 _).trans t2
  generalize hx : st.get 3 0 = x at *
  go_wp2_with fail
  have hv3 : ViewAt (w2.alloc (Obj.cells x.cells 60)) L (st.saw 3 0) := hv2.below ((Below.refl _ _).alloc (Nat.le_refl _) _)
  have b3 : blk (w2.alloc (Obj.cells x.cells 60)) w2.heap.size = some (.cells x.cells 60 (0, 0)) := blk_alloc_at _ _ _ rfl
  have s3 : w2.heap.size < (w2.alloc (Obj.cells x.cells 60)).heap.size := by simp
  have t3 := t2'.alloc (Obj.cells x.cells 60)
  have f3 := frozen_blk b3
  have c0 := cell_of_row _ _ 0 _ _ _ b3
  have c1 := cell_of_row _ _ 1 _ _ _ b3
  rw [cells_0] at c0
  rw [cells_1] at c1
  generalize (w2.alloc (Obj.cells x.cells 60)) = W3 at *
  have hB0 : w.heap.size ≤ w2.heap.size := t2'.size
  generalize w2.heap.size = B at *
  go_loop [12] (fun i => ∃ j : Nat, j ≤ 8 ∧ i = .int .i64 (j : Int) ∧ qFree st = freeQ (x.n 0) (8 - j)) (fun i => 8 - (intOf i).toNat)
  case atStart => exact ⟨0, by omega, rfl, by unfold qFree; rw [hx]⟩
  case round =>
    obtain ⟨j, j2, rfl, hfree⟩ := hrel
    by_cases hlt : j < 8
    · have hj : (j : Int) < 8 := by omega
      have hj0 : (0 : Int) ≤ (j : Int) := by omega
      cases hbit : (bits BinOp.and IntKind.i64 (x.n 0 / 2 ^ j) 1 == 1)
      · go_upto_region 8 with fail
        have hf : qFree st = j := hfree.trans (freeQ_hit _ _ hlt hbit)
        have b4 := blk_setCell_same (blk_setCell_same b3 0 (Value.int IntKind.i64 (markI (x.n 0) j))) 1 (Value.int IntKind.i64 (wrap64 (x.n 1 + 1)))
        rw [cells_set0, cells_set1] at b4
        rw [markI_def]
        have tl : Turn (fun k => w.heap.size ≤ k) W3 ((W3.setCell ⟨B, 0, none⟩ (Value.int IntKind.i64 (markI (x.n 0) j))).setCell ⟨B, 1, none⟩ (Value.int IntKind.i64 (wrap64 (x.n 1 + 1)))) := ((Turn.refl _ _).setCell (p := ⟨B, 0, none⟩) (Or.inl (show w.heap.size ≤ B by omega)) _).setCell (p := ⟨B, 1, none⟩) (Or.inl (show w.heap.size ≤ B by omega)) _
        have hv4 := hv3.off tl lt
        have t4 := t3.offS tl (Nat.le_refl _)
        have s4 := blk_lt b4
        rw [show (x.set 0 (markI (x.n 0) j)).set 1 (wrap64 (x.n 1 + 1)) = qTab x j from rfl] at b4
        generalize hy : qTab x j = y at *
        generalize ((W3.setCell ⟨B, 0, none⟩ (Value.int IntKind.i64 (markI (x.n 0) j))).setCell ⟨B, 1, none⟩ (Value.int IntKind.i64 (wrap64 (x.n 1 + 1)))) = W4 at *
        clear c0 c1 f3 b3
        have b4d : blk W4.drew B = some (.cells y.cells 60 (0, 0)) := by rw [blk_drew]; exact b4
        have v4d : ViewAt W4.drew L (st.saw 3 0) := hv4.off (Turn.refl _ _).drew lt
        have s4d : B < W4.drew.heap.size := s4
        clear hv4
        go_region_with (first
          | (go_at_call 103; refine (qtable_any _).mono ?_; rintro e w5 ⟨rfl, t5⟩; have b5 := blk_below t5 b4d s4d; have v5 := v4d.below t5; have r5 := t5.size)
          | (go_at_call 42; refine (vput_any L (st.saw 3 0) 3 0 y _ (by assumption)).mono ?_; rintro e w6 ⟨rfl, hv6, t6⟩))
        all_goals
          have t6' : Turn (fun k => k = L.r ∨ k = L.m) w w6 := (((t4.mono fun _ _ => Or.inl).drew).trans (Turn.of_below t5 _)).trans (t6.mono fun _ _ => Or.inr)
          have b6 : blk w6 B = some (.cells y.cells 60 (0, 0)) := blk_of_turn t6 b5 (by omega)
          clear t1 hv1 t2 t2' hv3 t3 tl t4 b4 b4d v4d s4d t5 b5 v5 r5 t6
          go_upto_region 10 with fail
          have b6' := blk_below ((Below.refl w6.heap.size w6).alloc (Nat.le_refl _) (Obj.cells Val.zero.cells 60)) b6 (by have := blk_lt b6; omega)
          have c6 : blk (w6.alloc (Obj.cells Val.zero.cells 60)) w6.heap.size = some (.cells Val.zero.cells 60 (0, 0)) := blk_alloc_at _ _ _ rfl
          have hBC : B ≠ w6.heap.size := by have := blk_lt b6; omega
          have hv7 : ViewAt (w6.alloc (Obj.cells Val.zero.cells 60)) L ((st.saw 3 0).put 3 0 y) := hv6.below ((Below.refl _ _).alloc (Nat.le_refl _) _)
          have t7 := t6'.alloc (Obj.cells Val.zero.cells 60)
          have hC0 : w.heap.size ≤ w6.heap.size := t6'.size
          generalize w6.alloc (Obj.cells Val.zero.cells 60) = W7 at *
          generalize w6.heap.size = C at *
          clear s3 s4 t6' hv6 b6
          have d1 := cell_of_row _ _ 1 _ _ _ b6'
          rw [cells_1] at d1
          have d1d : W7.drew.cell? ⟨B, 1, none⟩ = some (.int .i64 (y.n 1)) := d1
          have k0 := cell_of_row _ _ 0 _ _ _ c6
          have k1 := cell_of_row _ _ 1 _ _ _ c6
          have k2 := cell_of_row _ _ 2 _ _ _ c6
          rw [cells_0] at k0
          rw [cells_1] at k1
          rw [cells_2] at k2
          have kf := frozen_blk c6
          have hw := wrap_i64 (bb + 1)
          go_region_with (fail)
          all_goals
            have b8 := blk_setCell_same (blk_setCell_same (blk_setCell_same c6 0 (Value.int IntKind.i64 1)) 1 (Value.int IntKind.i64 (wrap64 (bb + 1)))) 2 (Value.int IntKind.i64 (y.n 1))
            rw [cells_set0, cells_set1, cells_set2, show ((Val.zero.set 0 1).set 1 (wrap64 (bb + 1))).set 2 (y.n 1) = qNew bb (y.n 1) from rfl] at b8
            have tl : Turn (fun k => w.heap.size ≤ k) W7 (((W7.setCell ⟨C, 0, none⟩ (Value.int IntKind.i64 1)).setCell ⟨C, 1, none⟩ (Value.int IntKind.i64 (wrap64 (bb + 1)))).setCell ⟨C, 2, none⟩ (Value.int IntKind.i64 (y.n 1))) := (((Turn.refl _ _).setCell (p := ⟨C, 0, none⟩) (Or.inl hC0) _).setCell (p := ⟨C, 1, none⟩) (Or.inl hC0) _).setCell (p := ⟨C, 2, none⟩) (Or.inl hC0) _
            have hv8 := (hv7.off tl lt).drewN 1
            have t8 := (t7.offS tl (Nat.le_refl _)).drew
            clear d1 d1d k0 k1 k2 kf tl hv7 t7 c6 b6'
            go_upto_region 11 with fail
            generalize (((W7.setCell ⟨C, 0, none⟩ (Value.int IntKind.i64 1)).setCell ⟨C, 1, none⟩ (Value.int IntKind.i64 (wrap64 (bb + 1)))).setCell ⟨C, 2, none⟩ (Value.int IntKind.i64 (y.n 1))) = W8 at *
            have hv9 : ViewAt W8.drew L ((st.saw 3 0).put 3 0 y) := hv8
            have b9 : blk W8.drew C = some (.cells (qNew bb (y.n 1)).cells 60 (0, 0)) := (blk_drew _ _).trans b8
            clear hv8 b8
            generalize hO : qNew bb (y.n 1) = O at *
            generalize W8.drew = W9 at *
            obtain ⟨b9d, v9d, s9d⟩ := at_drew b9 hv9
            go_region_with (first
              | (go_at_call 104; refine (qkey_any j _).mono ?_; rintro e wa ⟨rfl, ta⟩; have ba := blk_below ta b9d s9d; have va := v9d.below ta; have ra := ta.size)
              | (go_at_call 42; refine (vput_any L ((st.saw 3 0).put 3 0 y) 4 j O _ (by assumption)).mono ?_; rintro e wb ⟨rfl, hvb, tb⟩))
            all_goals
              clear b9 hv9 b9d v9d ba va
              go_wp2_with fail
              go_ret2
              refine ⟨by unfold qNum; rw [hf, if_pos hlt]; simp [hlt], by unfold qAlloc qTake; rw [hf, if_pos hlt, hx, hy, show wrap64 (x.n 1 + 1) = y.n 1 by rw [← hy]; rfl, hO]; exact hvb, (t8.drew.trans (Turn.of_below ta _)).trans (tb.mono fun _ _ => Or.inr)⟩
      · go_wp2_with fail
        go_round
        case rel => exact ⟨j + 1, by omega, by go_num, hfree.trans (freeQ_past _ _ hlt hbit)⟩
        case measure => simp [intOf]; omega
    · obtain rfl : j = 8 := by omega
      go_wp2_with fail
      go_ret2
      have hf : qFree st = 8 := hfree
      refine ⟨by unfold qNum; rw [hf]; rfl, by unfold qAlloc; rw [hf]; exact hv3, t3.mono fun _ _ => Or.inl⟩
end Go.Proofs.YtfcgkjbifnhjjaaGreatDoor.St

namespace Go.Proofs.YtfcgkjbifnhjjaaGreatDoor.St
open Go.RowKit
set_option linter.unusedVariables false

/-- The stages of OnesCount64. -/
def o1 (a : Int) : Int := IntKind.u64.wrap (bits .and .u64 (a / 2) 6148914691236517205 + bits .and .u64 a 6148914691236517205)
def o2 (b : Int) : Int := IntKind.u64.wrap (bits .and .u64 (b / 4) 3689348814741910323 + bits .and .u64 b 3689348814741910323)
def o3 (c : Int) : Int := bits .and .u64 (IntKind.u64.wrap (c / 16 + c)) 1085102592571150095
def o4 (d : Int) : Int := IntKind.u64.wrap (d + d / 256)
def o5 (d : Int) : Int := IntKind.u64.wrap (d + d / 65536)
def o6 (d : Int) : Int := IntKind.u64.wrap (d + d / 4294967296)
def ones64 (a : Int) : Int := bits .and .i64 (wrap64 (o6 (o5 (o4 (o3 (o2 (o1 a))))))) 127
attribute [local irreducible] Int.lt Int.le
set_option maxRecDepth 100000 in
theorem ones_any (a : Int) (w : World) :
    Calls Tryz.prog 72 #[.int .u64 a] w fun e w' => e = .returned (.int .i64 (ones64 a)) ∧ w = w' := by
  obtain ⟨r, hr⟩ : ∃ r, r = ones64 a := ⟨_, rfl⟩
  rw [← hr]
  have Hr := Lib.hid hr
  clear hr
  go_enter Tryz.func72, Tryz.ntmps72
  go_upto_region 2 with fail
  rw [show IntKind.u64.wrap (bits .and .u64 (a / 2) 6148914691236517205 + bits .and .u64 a 6148914691236517205) = o1 a from rfl]
  obtain ⟨b, hb⟩ : ∃ b, b = o1 a := ⟨_, rfl⟩
  rw [← hb]
  have Hb := Lib.hid hb
  clear hb
  go_upto_region 3 with fail
  rw [show IntKind.u64.wrap (bits .and .u64 (b / 4) 3689348814741910323 + bits .and .u64 b 3689348814741910323) = o2 b from rfl]
  obtain ⟨c, hc⟩ : ∃ c, c = o2 b := ⟨_, rfl⟩
  rw [← hc]
  have Hc := Lib.hid hc
  clear hc
  go_upto_region 4 with fail
  rw [show bits .and .u64 (IntKind.u64.wrap (c / 16 + c)) 1085102592571150095 = o3 c from rfl]
  obtain ⟨d, hd⟩ : ∃ d, d = o3 c := ⟨_, rfl⟩
  rw [← hd]
  have Hd := Lib.hid hd
  clear hd
  go_upto_region 5 with fail
  rw [show IntKind.u64.wrap (d + d / 256) = o4 d from rfl]
  obtain ⟨e, he⟩ : ∃ e, e = o4 d := ⟨_, rfl⟩
  rw [← he]
  have He := Lib.hid he
  clear he
  go_upto_region 6 with fail
  rw [show IntKind.u64.wrap (e + e / 65536) = o5 e from rfl]
  obtain ⟨f, hf⟩ : ∃ f, f = o5 e := ⟨_, rfl⟩
  rw [← hf]
  have Hf := Lib.hid hf
  clear hf
  go_upto_region 7 with fail
  rw [show IntKind.u64.wrap (f + f / 4294967296) = o6 f from rfl]
  obtain ⟨g, hg⟩ : ∃ g, g = o6 f := ⟨_, rfl⟩
  rw [← hg]
  have Hg := Lib.hid hg
  clear hg
  go_wp2_with fail
  go_ret
  exact ⟨by rw [Hr.out]; unfold ones64; rw [← Hb.out, ← Hc.out, ← Hd.out, ← He.out, ← Hf.out, ← Hg.out]; rfl, rfl⟩
theorem spool_any (w : World) :
    Calls Tryz.prog 32 #[] w fun e w' => e = .returned (keyV 2 0) ∧ Below w.heap.size w w' := by
  go_enter Tryz.func32, Tryz.ntmps32
  go_wp2_with fail
  exact bodyPost_key (b := w.heap.size) rfl rfl rfl (heap_alloc_new _ _) rfl ⟨rfl, (Below.refl _ _).alloc (Nat.le_refl _) _⟩
theorem results_key2 {fn : Func} {p q : Tmp} (h : fn.results = #[.cell p 57, .cell q 57]) (tmps : Array Value) (w : World) (g g' : Nat) (t t' : TypeId) (cs cs' : Array Value) (fr fr' : Nat × Nat)
    (hp : tmps.getD p undef = .pointer (some ⟨g, 0, none⟩)) (hg : blk w g = some (.cells cs t fr)) (hc : cs.size = 2)
    (hp' : tmps.getD q undef = .pointer (some ⟨g', 0, none⟩)) (hg' : blk w g' = some (.cells cs' t' fr')) (hc' : cs'.size = 2) :
    (results fn tmps).run Tryz.prog w = .ok (.tuple #[.agg cs, .agg cs']) w := by
  have hu := Tryz.underlying57
  have e1 : tmps[p]?.getD undef = .pointer (some ⟨g, 0, none⟩) := by simpa using hp
  have e2 : tmps[q]?.getD undef = .pointer (some ⟨g', 0, none⟩) := by simpa using hp'
  simp [results, h, e1, e2, asAddr, run_loadVar_row w g t 57 cs fr _ hg hu rfl (by rw [key_size, hc]), run_loadVar_row w g' t' 57 cs' fr' _ hg' hu rfl (by rw [key_size, hc'])]
theorem skeys_any (p : Int) (w : World) :
    Calls Tryz.prog 29 #[.int .i64 p] w fun e w' => e = .returned (.tuple #[keyV 4 p, keyV 12 p]) ∧ Below w.heap.size w w' := by
  go_enter Tryz.func29, Tryz.ntmps29
  go_wp2_with fail
  have hb := (Below.refl (w.alloc (Obj.cells #[.int .i64 4, .int .i64 p] 57)).heap.size (w.alloc (Obj.cells #[.int .i64 4, .int .i64 p] 57))).alloc (Nat.le_refl _) (Obj.cells #[.int .i64 12, .int .i64 p] 57)
  have hs : (w.alloc (Obj.cells #[.int .i64 4, .int .i64 p] 57)).heap.size = w.heap.size + 1 := by simp
  refine bodyPost_ret (results_key2 rfl _ _ w.heap.size (w.heap.size + 1) _ _ _ _ _ _ rfl (blk_below hb (blk_alloc_at _ _ _ rfl) (by omega)) rfl rfl (blk_alloc_at _ _ _ hs.symm) rfl) rfl ⟨rfl, ?_⟩
  exact ((Below.refl _ _).alloc (Nat.le_refl _) _).alloc (by omega) _
attribute [local go_sem] run_fieldN run_indexN
theorem sfree_any (L : Lay) (st : VSt) (w : World) (hV : ViewAt w L st) :
    Calls Tryz.prog 31 #[.pointer (some ⟨L.v, 0, none⟩)] w fun e w' => e = .returned (.int .i64 (ones64 (IntKind.u64.wrap ((st.get 2 0).n 0)))) ∧ ViewAt w' L (st.saw 2 0) ∧ Turn (· = L.r) w w' := by
  obtain ⟨x, hx⟩ : ∃ x, x = st.get 2 0 := ⟨_, rfl⟩
  rw [← hx]
  have Hx := Lib.hid hx
  clear hx
  go_enter Tryz.func31, Tryz.ntmps31
  go_wp2_with fail
  refine (spool_any _).mono ?_; rintro e w1 ⟨rfl, t1⟩
  have hv1 := hV.below t1
  go_wp2_with fail
  refine (vget_any L st 2 0 _ hv1).mono ?_; rw [← Hx.out]; rintro e w2 ⟨rfl, hv2, t2⟩
  clear Hx
  go_wp2_with fail
  refine (ones_any _ _).mono ?_; rintro e w3 ⟨rfl, rfl⟩
  go_wp2_with fail
  go_ret
  exact ⟨rfl, hv2, (Turn.of_below t1 _).trans t2⟩
attribute [local go_sem] blk_alloc_at blk_alloc_past blk_drew blk_drewN blk_setB_same blk_setB_other blk_setRow_other setRow_alloc_at setRow_alloc_past setRow_drewN setRow_drew setB_size setB_cell setB_frozen setB_alloc_past setB_drewN setB_drew run_loadV loadOr_cells run_storeV storeOr_cells cells_size ones_cells cells_0 cells_1 cells_2 cells_16
attribute [local go_sem ↓] execOp_loadV execOp_storeV
attribute [local go_sem ↓] wp_at0 wp_at1 wp_at2 wp_at3 wp_at4 wp_at5 wp_at6 wp_at7
set_option maxRecDepth 100000 in
set_option maxHeartbeats 1000000 in
theorem sputp_any (L : Lay) (st : VSt) (p : Int) (x m y : Val) (w : World) (hV : ViewAt w L st) :
    Calls Tryz.prog 35 #[.pointer (some ⟨L.v, 0, none⟩), .int .i64 p, .agg x.cells, .agg m.cells, .agg y.cells] w fun e w' => e = .returned (.tuple #[]) ∧ ViewAt w' L (((st.put 4 p x).put 12 p m).put 2 0 y) ∧ Turn (· = L.m) w w' := by
  have lt := hV.lts
  have v1 := ((hV.alloc (Obj.cells x.cells 60)).alloc (Obj.cells m.cells 60)).alloc (Obj.cells y.cells 60)
  have s1 : (w.alloc (Obj.cells x.cells 60)).heap.size = w.heap.size + 1 := by simp
  have s2 : ((w.alloc (Obj.cells x.cells 60)).alloc (Obj.cells m.cells 60)).heap.size = w.heap.size + 1 + 1 := by simp
  have s3 : (((w.alloc (Obj.cells x.cells 60)).alloc (Obj.cells m.cells 60)).alloc (Obj.cells y.cells 60)).heap.size = w.heap.size + 1 + 1 + 1 := by simp
  have b0 : blk (w.alloc (Obj.cells x.cells 60)) w.heap.size = some (.cells x.cells 60 (0, 0)) := blk_alloc_at _ _ _ rfl
  have b1 : blk ((w.alloc (Obj.cells x.cells 60)).alloc (Obj.cells m.cells 60)) (w.heap.size + 1) = some (.cells m.cells 60 (0, 0)) := blk_alloc_at _ _ _ s1.symm
  have b2 : blk (((w.alloc (Obj.cells x.cells 60)).alloc (Obj.cells m.cells 60)).alloc (Obj.cells y.cells 60)) (w.heap.size + 1 + 1) = some (.cells y.cells 60 (0, 0)) := blk_alloc_at _ _ _ s2.symm
  have b0' : blk (((w.alloc (Obj.cells x.cells 60)).alloc (Obj.cells m.cells 60)).alloc (Obj.cells y.cells 60)) w.heap.size = some (.cells x.cells 60 (0, 0)) := by rw [blk_alloc_past _ _ _ (by omega), blk_alloc_past _ _ _ (by omega)]; exact b0
  have b1' : blk (((w.alloc (Obj.cells x.cells 60)).alloc (Obj.cells m.cells 60)).alloc (Obj.cells y.cells 60)) (w.heap.size + 1) = some (.cells m.cells 60 (0, 0)) := by rw [blk_alloc_past _ _ _ (by omega)]; exact b1
  have t1 : Turn (· = L.m) w (((w.alloc (Obj.cells x.cells 60)).alloc (Obj.cells m.cells 60)).alloc (Obj.cells y.cells 60)) := (((Turn.refl _ w).alloc _).alloc _).alloc _
  go_enter Tryz.func35, Tryz.ntmps35
  go_upto_region 1 with fail
  clear b0 b1 s1 s2
  generalize (((w.alloc (Obj.cells x.cells 60)).alloc (Obj.cells m.cells 60)).alloc (Obj.cells y.cells 60)) = W1 at *
  go_wp2_with fail
  refine (skeys_any p _).mono ?_; rintro e w2 ⟨rfl, t2⟩
  have v2 := v1.below t2
  have x2 := blk_below t2 b0' (by omega)
  have m2 := blk_below t2 b1' (by omega)
  have y2 := blk_below t2 b2 (by omega)
  have tt2 := t1.trans (Turn.of_below t2 _)
  have z2 := t2.size
  clear v1 b0' b1' b2 t1 t2
  go_upto_region 2 with fail
  have sk1 : (w2.alloc (Obj.cells #[.int .i64 4, .int .i64 p] 57)).heap.size = w2.heap.size + 1 := by simp
  have bb := (Below.refl w2.heap.size w2).alloc (Nat.le_refl _) (Obj.cells #[.int .i64 4, .int .i64 p] 57)
  have bb2 := (Below.refl (w2.alloc (Obj.cells #[.int .i64 4, .int .i64 p] 57)).heap.size (w2.alloc (Obj.cells #[.int .i64 4, .int .i64 p] 57))).alloc (Nat.le_refl _) (Obj.cells #[.int .i64 12, .int .i64 p] 57)
  have v3 := (v2.alloc (Obj.cells #[.int .i64 4, .int .i64 p] 57)).alloc (Obj.cells #[.int .i64 12, .int .i64 p] 57)
  have t3 := (tt2.alloc (Obj.cells #[.int .i64 4, .int .i64 p] 57)).alloc (Obj.cells #[.int .i64 12, .int .i64 p] 57)
  have q1 : blk ((w2.alloc (Obj.cells #[.int .i64 4, .int .i64 p] 57)).alloc (Obj.cells #[.int .i64 12, .int .i64 p] 57)) w2.heap.size = some (.cells #[.int .i64 4, .int .i64 p] 57 (0, 0)) := blk_below bb2 (blk_alloc_at _ _ _ rfl) (by omega)
  have q2 : blk ((w2.alloc (Obj.cells #[.int .i64 4, .int .i64 p] 57)).alloc (Obj.cells #[.int .i64 12, .int .i64 p] 57)) (w2.heap.size + 1) = some (.cells #[.int .i64 12, .int .i64 p] 57 (0, 0)) := blk_alloc_at _ _ _ sk1.symm
  have x3 := blk_below bb2 (blk_below bb x2 (by omega)) (by omega)
  have m3 := blk_below bb2 (blk_below bb m2 (by omega)) (by omega)
  have y3 := blk_below bb2 (blk_below bb y2 (by omega)) (by omega)
  clear v2 x2 m2 y2 tt2 bb bb2 sk1
  generalize ((w2.alloc (Obj.cells #[.int .i64 4, .int .i64 p] 57)).alloc (Obj.cells #[.int .i64 12, .int .i64 p] 57)) = W3 at *
  have e0 := (key_cells q1).1
  have e1 := (key_cells q1).2
  go_wp2_with fail
  refine (vput_any L st 4 p x _ v3).mono ?_; rintro e w4 ⟨rfl, v4, t4⟩
  have q4 := blk_of_turn t4 q2 (show ¬ (_ = L.m) by omega)
  have m4 : blk w4 (w.heap.size + 1) = some (.cells m.cells 60 (0, 0)) := blk_of_turn t4 m3 (show ¬ (_ = L.m) by omega)
  have y4 : blk w4 (w.heap.size + 1 + 1) = some (.cells y.cells 60 (0, 0)) := blk_of_turn t4 y3 (show ¬ (_ = L.m) by omega)
  have tt4 := t3.trans t4
  clear e0 e1 q1 q2 x3 m3 y3 v3 t3 t4
  have e0 := (key_cells q4).1
  have e1 := (key_cells q4).2
  go_wp2_with fail
  refine (vput_any L (st.put 4 p x) 12 p m _ v4).mono ?_; rintro e w5 ⟨rfl, v5, t5⟩
  have y5 : blk w5 (w.heap.size + 1 + 1) = some (.cells y.cells 60 (0, 0)) := blk_of_turn t5 y4 (show ¬ (_ = L.m) by omega)
  have tt5 := tt4.trans t5
  clear e0 e1 q4 m4 y4 v4 t5 tt4
  go_upto_region 4 with fail
  obtain ⟨yd, vd, sd⟩ := at_drew y5 v5
  go_region_with (first
    | (go_at_call 32; refine (spool_any _).mono ?_; rintro e w8 ⟨rfl, t8⟩; have y8 := blk_below t8 yd sd; have v8 := vd.below t8; have r8 := t8.size)
    | (go_at_call 42; refine (vput_any L ((st.put 4 p x).put 12 p m) 2 0 y _ (by assumption)).mono ?_; rintro e w9 ⟨rfl, v9, t9⟩))
  all_goals
    clear y5 v5 yd vd y8 v8
    go_wp2_with fail
    go_end0
    exact ⟨rfl, v9, (tt5.drew.trans (Turn.of_below t8 _)).trans t9⟩
end Go.Proofs.YtfcgkjbifnhjjaaGreatDoor.St
