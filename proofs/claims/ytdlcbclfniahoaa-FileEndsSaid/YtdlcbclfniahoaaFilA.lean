/- The contracts of package file: key, table, Is, get, Open, over a view in memory. No condition but those written in each statement. -/
import Derived.Test.YtdlcbclfniahoaaPipS
import Derived.Deep.RegionWith
import Derived.Deep.Cut
namespace Go.Proofs.Ytdlcbclfniahoaa.St
open Go.RowKit
set_option linter.unusedVariables false

theorem cells_3 (x : Val) : x.cells[3]? = some (.int .i64 (x.n 3)) := by simp [Val.cells]
theorem cells_4 (x : Val) : x.cells[4]? = some (.int .i64 (x.n 4)) := by simp [Val.cells]
theorem cells_g3 (x : Val) (h : 3 < x.cells.size) : x.cells[3] = .int .i64 (x.n 3) := by simp [Val.cells]
theorem cells_g4 (x : Val) (h : 4 < x.cells.size) : x.cells[4] = .int .i64 (x.n 4) := by simp [Val.cells]
theorem cells_set3 (x : Val) (v : Int) : x.cells.setIfInBounds 3 (.int .i64 v) = (x.set 3 v).cells := rfl
theorem cells_set4 (x : Val) (v : Int) : x.cells.setIfInBounds 4 (.int .i64 v) = (x.set 4 v).cells := rfl

attribute [local go_sem] blk_alloc_at blk_alloc_past blk_drew blk_drewN blk_setB_same blk_setB_other blk_setRow_other setRow_alloc_at setRow_alloc_past setRow_drewN setRow_drew setB_size setB_cell setB_frozen setB_alloc_past setB_drewN setB_drew run_loadV loadOr_cells run_storeV storeOr_cells cells_size ones_cells cells_0 cells_1 cells_2 cells_3 cells_4 cells_16 cells_g0 cells_g1 cells_g2 cells_g3 cells_g4 cells_g16 cells_set0 cells_set1 cells_set2 cells_set3 cells_set4 cells_text
attribute [local go_sem ↓] execOp_loadV execOp_storeV
attribute [local go_sem ↓] wp_at0 wp_at1 wp_at2 wp_at3 wp_at4 wp_at5 wp_at6 wp_at7

theorem fkey_any (i : Int) (w : World) :
    Calls Try.prog 35 #[.int .i64 i] w fun e w' => e = .returned (keyV 6 i) ∧ Below w.heap.size w w' := by
  go_enter Try.func35, Try.ntmps35
  go_wp2_with fail
  exact bodyPost_key (b := w.heap.size) rfl rfl rfl (heap_alloc_new _ _) rfl ⟨rfl, (Below.refl _ _).alloc (Nat.le_refl _) _⟩
theorem ftable_any (w : World) :
    Calls Try.prog 34 #[] w fun e w' => e = .returned (keyV 5 0) ∧ Below w.heap.size w w' := by
  go_enter Try.func34, Try.ntmps34
  go_wp2_with fail
  exact bodyPost_key (b := w.heap.size) rfl rfl rfl (heap_alloc_new _ _) rfl ⟨rfl, (Below.refl _ _).alloc (Nat.le_refl _) _⟩

attribute [local go_sem] run_fieldN run_indexN

/-- Is a file open; what was read to know it. -/
def fHas (st : VSt) (q : Int) : Bool := if q < 0 ∨ 12 ≤ q then false else usedI ((st.get 5 0).n 0) q.toNat
def fSaw (st : VSt) (q : Int) : VSt := if q < 0 ∨ 12 ≤ q then st else st.saw 5 0

theorem fis_out (L : Lay) (st : VSt) (q : Int) (h : decide (0 ≤ q) = false ∨ decide (0 ≤ q) = true ∧ decide (q < 12) = false) (w : World) (hV : ViewAt w L st) :
    Calls Try.prog 16 #[.pointer (some ⟨L.v, 0, none⟩), .int .i64 q] w fun e w' => e = .returned (.bool false) ∧ ViewAt w' L st ∧ Turn (· = L.r) w w' := by
  rcases h with h | ⟨h1, h2⟩
  all_goals
    go_enter Try.func16, Try.ntmps16
    go_wp2_with fail
    go_ret
    exact ⟨rfl, hV, Turn.refl _ _⟩

attribute [local irreducible] Int.lt Int.le
set_option maxRecDepth 20000 in
theorem fis_in (L : Lay) (st : VSt) (j : Nat) (h1 : j < 12) (w : World) (hV : ViewAt w L st) :
    Calls Try.prog 16 #[.pointer (some ⟨L.v, 0, none⟩), .int .i64 j] w fun e w' => e = .returned (.bool (usedI ((st.get 5 0).n 0) j)) ∧ ViewAt w' L (st.saw 5 0) ∧ Turn (· = L.r) w w' := by
  have g1 : (0 : Int) ≤ (j : Int) := by omega
  have g2 : (j : Int) < 12 := by omega
  go_enter Try.func16, Try.ntmps16
  go_wp2_with fail
  refine (ftable_any _).mono ?_; rintro e w1 ⟨rfl, t1⟩
  have hv1 := hV.below t1
  go_wp2_with fail
  refine (vget_any L st 5 0 _ hv1).mono ?_; rintro e w2 ⟨rfl, hv2, t2⟩
  generalize hx : st.get 5 0 = x at *
  go_wp2_with fail
  go_ret
  exact ⟨by rw [hx, ← usedI_def]; rfl, hv2, (Turn.of_below t1 _).trans t2⟩

theorem fis_any (L : Lay) (st : VSt) (q : Int) (w : World) (hV : ViewAt w L st) :
    Calls Try.prog 16 #[.pointer (some ⟨L.v, 0, none⟩), .int .i64 q] w fun e w' => e = .returned (.bool (fHas st q)) ∧ ViewAt w' L (fSaw st q) ∧ Turn (· = L.r) w w' := by
  unfold fHas fSaw
  by_cases h : q < 0 ∨ 12 ≤ q
  · rw [if_pos h, if_pos h]
    refine fis_out L st q ?_ w hV
    by_cases h0 : 0 ≤ q
    · exact Or.inr ⟨decide_eq_true h0, decide_eq_false (by omega)⟩
    · exact Or.inl (decide_eq_false h0)
  · rw [if_neg h, if_neg h]
    obtain ⟨j, rfl⟩ := Int.eq_ofNat_of_zero_le (show 0 ≤ q by omega)
    exact fis_in L st j (by omega) w hV

/-- An open file. -/
def fGet (st : VSt) (q : Int) : Val := if fHas st q = true then st.get 6 q else Val.zero
def fGot (st : VSt) (q : Int) : VSt := if fHas st q = true then (fSaw st q).saw 6 q else fSaw st q
theorem fSaw_get (st : VSt) (f k n : Int) : (fSaw st f).get k n = st.get k n := by
  unfold fSaw; split
  · rfl
  · exact get_saw _ _ _ _ _
set_option maxRecDepth 20000 in
theorem fget_any (L : Lay) (st : VSt) (f : Int) (w : World) (hV : ViewAt w L st) :
    Calls Try.prog 40 #[.pointer (some ⟨L.v, 0, none⟩), .int .i64 f] w fun e w' => e = .returned (.tuple #[.agg (fGet st f).cells, .bool (fHas st f)]) ∧ ViewAt w' L (fGot st f) ∧ Turn (· = L.r) w w' := by
  have hz := zero_val
  have lt := hV.lts
  have b0 : blk (w.alloc (Obj.cells Val.zero.cells 58)) w.heap.size = some (.cells Val.zero.cells 58 (0, 0)) := blk_alloc_at _ _ _ rfl
  have t0 : Below w.heap.size w (w.alloc (Obj.cells Val.zero.cells 58)) := (Below.refl _ _).alloc (Nat.le_refl _) _
  have hv0 := hV.below t0
  have hs0 : w.heap.size < (w.alloc (Obj.cells Val.zero.cells 58)).heap.size := by simp
  unfold fGet fGot
  cases hh : fHas st f
  · go_enter Try.func40, Try.ntmps40
    go_wp2_with fail
    generalize w.alloc (Obj.cells Val.zero.cells 58) = W0 at *
    refine (fis_any L st f W0 hv0).mono ?_; rw [hh]; rintro e w1 ⟨rfl, hv1, t1⟩
    have b1 : blk w1 w.heap.size = some (.cells Val.zero.cells 58 (0, 0)) := blk_of_turn t1 b0 (by omega)
    have s1 := t1.size
    go_wp2_with fail
    have tl : Turn (fun j => w.heap.size ≤ j) w1 (w1.setRow w.heap.size Val.zero.cells) := (Turn.refl _ _).setRow (Or.inl (Nat.le_refl _)) _
    refine bodyPost_val2 (b := w.heap.size) (c := Val.zero.cells) (t := 58) (fz := (0, 0)) rfl rfl rfl ?_ (cells_size _) ⟨rfl, hv1.off tl lt, ((Turn.of_below t0 _).trans t1).offS tl (Nat.le_refl _)⟩
    exact setRow_heap _ _ _ _ _ _ b1
  · go_enter Try.func40, Try.ntmps40
    go_wp2_with fail
    generalize w.alloc (Obj.cells Val.zero.cells 58) = W0 at *
    refine (fis_any L st f W0 hv0).mono ?_; rw [hh]; rintro e w1 ⟨rfl, hv1, t1⟩
    have b1 : blk w1 w.heap.size = some (.cells Val.zero.cells 58 (0, 0)) := blk_of_turn t1 b0 (by omega)
    have s1 := t1.size
    have t1' := (Turn.of_below t0 (· = L.r)).trans t1
    clear b0 hv0 t0 t1 hV
    go_wp2_with fail
    refine (fkey_any f _).mono ?_; rintro e w2 ⟨rfl, t2⟩
    have hv2 := hv1.below t2
    have b2 := blk_below t2 b1 (by omega)
    have s2 := t2.size
    have t2' := t1'.trans (Turn.of_below t2 _)
    clear b1 hv1 t1' t2
    go_wp2_with fail
    refine (vget_any L (fSaw st f) 6 f _ hv2).mono ?_; rw [fSaw_get]; rintro e w3 ⟨rfl, hv3, t3⟩
    have b3 : blk w3 w.heap.size = some (.cells Val.zero.cells 58 (0, 0)) := blk_of_turn t3 b2 (by omega)
    have s3 := t3.size
    have t3' := t2'.trans t3
    clear b2 hv2 t2' t3
    generalize hx : st.get 6 f = x at *
    go_wp2_with fail
    have tl : Turn (fun j => w.heap.size ≤ j) w3 (w3.setRow w.heap.size x.cells) := (Turn.refl _ _).setRow (Or.inl (Nat.le_refl _)) _
    refine bodyPost_val2 (b := w.heap.size) (c := x.cells) (t := 58) (fz := (0, 0)) rfl rfl rfl ?_ (cells_size _) ⟨by first | rfl | (rw [hx]; rfl), hv3.off tl lt, t3'.offS tl (Nat.le_refl _)⟩
    exact setRow_heap _ _ _ _ _ _ b3

/-- The least j from 12 - d on, below 12, whose bit is not set; 12: none. -/
def freeF (x : Int) : Nat → Nat
  | 0 => 12
  | d + 1 => if usedI x (11 - d) = true then freeF x d else 11 - d
def fFree (st : VSt) : Nat := freeF ((st.get 5 0).n 0) 12
def openV (k w m : Int) : Val := (((Val.zero.set 0 k).set 1 1).set 2 w).set 4 m
def fTake (st : VSt) (j : Nat) (k w m : Int) : VSt := ((st.saw 5 0).put 5 0 ((st.get 5 0).set 0 (markI ((st.get 5 0).n 0) j))).put 6 j (openV k w m)
def fOpen (st : VSt) (k w m : Int) : VSt := if fFree st < 12 then fTake st (fFree st) k w m else st.saw 5 0
def fNum (st : VSt) : Int := if fFree st < 12 then (fFree st : Int) else 0
theorem freeF_hit (x : Int) (j : Nat) (h : j < 12) (hb : usedI x j = false) : freeF x (12 - j) = j := by
  have e : 12 - j = (11 - j) + 1 := by omega
  rw [e, freeF, show 11 - (11 - j) = j by omega, hb]
  rfl
theorem freeF_past (x : Int) (j : Nat) (h : j < 12) (hb : usedI x j = true) : freeF x (12 - j) = freeF x (12 - (j + 1)) := by
  have e : 12 - j = (11 - j) + 1 := by omega
  rw [e, freeF, show 11 - (11 - j) = j by omega, if_pos hb, show 12 - (j + 1) = 11 - j by omega]

set_option maxRecDepth 20000 in
theorem fopen_any (L : Lay) (st : VSt) (kk ww mm : Int) (w : World) (hV : ViewAt w L st) :
    Calls Try.prog 11 #[.pointer (some ⟨L.v, 0, none⟩), .int .i64 kk, .int .i64 ww, .int .i64 mm] w fun e w' => e = .returned (.tuple #[.int .i64 (fNum st), .bool (decide (fFree st < 12))]) ∧ ViewAt w' L (fOpen st kk ww mm) ∧ Turn (fun k => k = L.r ∨ k = L.m) w w' := by
  have lt := hV.lts
  have hz := zero_val
  go_enter Try.func11, Try.ntmps11
  go_wp2_with fail
  refine (ftable_any _).mono ?_; rintro e w1 ⟨rfl, t1⟩
  have hv1 := hV.below t1
  go_wp2_with fail
  refine (vget_any L st 5 0 _ hv1).mono ?_; rintro e w2 ⟨rfl, hv2, t2⟩
  have t2' := (Turn.of_below t1 _).trans t2
  generalize hx : st.get 5 0 = x at *
  go_wp2_with fail
  have hv3 : ViewAt (w2.alloc (Obj.cells x.cells 58)) L (st.saw 5 0) := hv2.below ((Below.refl _ _).alloc (Nat.le_refl _) _)
  have b3 : blk (w2.alloc (Obj.cells x.cells 58)) w2.heap.size = some (.cells x.cells 58 (0, 0)) := blk_alloc_at _ _ _ rfl
  have s3 : w2.heap.size < (w2.alloc (Obj.cells x.cells 58)).heap.size := by simp
  have t3 := t2'.alloc (Obj.cells x.cells 58)
  have f3 := frozen_blk b3 0
  have c0 := cell_of_row _ _ 0 _ _ _ b3
  rw [cells_0] at c0
  generalize (w2.alloc (Obj.cells x.cells 58)) = W3 at *
  have hB0 : w.heap.size ≤ w2.heap.size := t2'.size
  generalize w2.heap.size = B at *
  go_loop [16] (fun i => ∃ j : Nat, j ≤ 12 ∧ i = .int .i64 (j : Int) ∧ fFree st = freeF (x.n 0) (12 - j)) (fun i => 12 - (intOf i).toNat)
  case atStart => exact ⟨0, by omega, rfl, by unfold fFree; rw [hx]⟩
  case round =>
    obtain ⟨j, j2, rfl, hfree⟩ := hrel
    by_cases hlt : j < 12
    · have hj : (j : Int) < 12 := by omega
      have hj0 : (0 : Int) ≤ (j : Int) := by omega
      cases hbit : (bits BinOp.and IntKind.i64 (x.n 0 / 2 ^ j) 1 == 1)
      · go_wp2_with fail
        have hf : fFree st = j := hfree.trans (freeF_hit _ _ hlt hbit)
        have b4 := blk_setCell_same b3 0 (Value.int IntKind.i64 (markI (x.n 0) j))
        rw [cells_set0] at b4
        rw [markI_def]
        have tl : Turn (fun k => w.heap.size ≤ k) W3 (W3.setCell ⟨B, 0, none⟩ (Value.int IntKind.i64 (markI (x.n 0) j))) := (Turn.refl _ _).setCell (Or.inl (show w.heap.size ≤ B by omega)) _
        have hv4 := hv3.off tl lt
        have t4 := t3.offS tl (Nat.le_refl _)
        have s4 : B < (W3.setCell ⟨B, 0, none⟩ (Value.int IntKind.i64 (markI (x.n 0) j))).heap.size := blk_lt b4
        generalize hy : x.set 0 (markI (x.n 0) j) = y at *
        generalize W3.setCell ⟨B, 0, none⟩ (Value.int IntKind.i64 (markI (x.n 0) j)) = W4 at *
        clear c0 f3 b3
        have b4d : blk W4.drew B = some (.cells y.cells 58 (0, 0)) := by rw [blk_drew]; exact b4
        have v4d : ViewAt W4.drew L (st.saw 5 0) := hv4.off (Turn.refl _ _).drew lt
        have s4d : B < W4.drew.heap.size := s4
        clear hv4
        go_region_with (first
          | (go_at_call 34; refine (ftable_any _).mono ?_; rintro e w5 ⟨rfl, t5⟩; have b5 := blk_below t5 b4d s4d; have v5 := v4d.below t5; have r5 := t5.size)
          | (go_at_call 25; refine (vput_any L (st.saw 5 0) 5 0 y _ (by assumption)).mono ?_; rintro e w6 ⟨rfl, hv6, t6⟩))
        all_goals
          have t6' : Turn (fun k => k = L.r ∨ k = L.m) w w6 := (((t4.mono fun _ _ => Or.inl).drew).trans (Turn.of_below t5 _)).trans (t6.mono fun _ _ => Or.inr)
          clear t1 hv1 t2 t2' hv3 t3 tl t4 b4 b4d v4d s4d t5 b5 v5 r5 t6
          go_upto_region 10 with fail
          have eO : (((Val.zero.set 0 kk).set 1 1).set 2 ww).set 4 mm = openV kk ww mm := rfl
          rw [eO]
          clear eO
          have b7 : blk (w6.alloc (Obj.cells (openV kk ww mm).cells 58)) w6.heap.size = some (.cells (openV kk ww mm).cells 58 (0, 0)) := blk_alloc_at _ _ _ rfl
          have b7d : blk (w6.alloc (Obj.cells (openV kk ww mm).cells 58)).drew w6.heap.size = some (.cells (openV kk ww mm).cells 58 (0, 0)) := by rw [blk_drew]; exact b7
          have v7d : ViewAt (w6.alloc (Obj.cells (openV kk ww mm).cells 58)).drew L ((st.saw 5 0).put 5 0 y) := (hv6.below ((Below.refl _ _).alloc (Nat.le_refl _) _)).off (Turn.refl _ _).drew lt
          have t7 := (t6'.alloc (Obj.cells (openV kk ww mm).cells 58)).drew
          have s7d : w6.heap.size < (w6.alloc (Obj.cells (openV kk ww mm).cells 58)).drew.heap.size := blk_lt b7d
          generalize w6.alloc (Obj.cells (openV kk ww mm).cells 58) = W7 at *
          generalize w6.heap.size = C at *
          generalize hO : openV kk ww mm = O at *
          clear s3 s4 t6' hv6
          go_region_with (first
            | (go_at_call 35; refine (fkey_any j _).mono ?_; rintro e w8 ⟨rfl, t8⟩; have b8 := blk_below t8 b7d s7d; have v8 := v7d.below t8; have r8 := t8.size)
            | (go_at_call 25; refine (vput_any L ((st.saw 5 0).put 5 0 y) 6 j O _ (by assumption)).mono ?_; rintro e w9 ⟨rfl, hv9, t9⟩))
          all_goals
            clear b7 b7d v7d b8 v8
            go_wp2_with fail
            go_ret2
            refine ⟨by unfold fNum; rw [hf, if_pos hlt]; simp [hlt], by unfold fOpen fTake; rw [hf, if_pos hlt, hx, hy, hO]; exact hv9, (t7.trans (Turn.of_below t8 _)).trans (t9.mono fun _ _ => Or.inr)⟩
      · go_wp2_with fail
        go_round
        case rel => exact ⟨j + 1, by omega, by go_num, hfree.trans (freeF_past _ _ hlt hbit)⟩
        case measure => simp [intOf]; omega
    · obtain rfl : j = 12 := by omega
      go_wp2_with fail
      go_ret2
      have hf : fFree st = 12 := hfree
      refine ⟨by unfold fNum; rw [hf]; rfl, by unfold fOpen; rw [hf]; exact hv3, t3.mono fun _ _ => Or.inl⟩
end Go.Proofs.Ytdlcbclfniahoaa.St
