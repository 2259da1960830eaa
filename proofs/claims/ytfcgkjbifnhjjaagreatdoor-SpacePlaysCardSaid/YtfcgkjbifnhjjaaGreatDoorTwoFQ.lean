/- The contract of cloisterkeep.New of any writes. No condition but those written in each statement. -/
import Derived.Test.YtfcgkjbifnhjjaaGreatDoorTwoEQ
import Derived.Test.YtfcgkjbifnhjjaaGreatDoorWrInQ
import Derived.Deep.CutBlock
namespace Go.Proofs.YtfcgkjbifnhjjaaGreatDoor.St
open Go.RowKit
set_option linter.unusedVariables false
attribute [local go_sem] blk_alloc_at blk_alloc_past blk_drew blk_drewN blk_setB_same blk_setB_other blk_setRow_other setRow_alloc_at setRow_alloc_past setRow_drewN setRow_drew setB_size setB_cell setB_frozen setB_alloc_past setB_drewN setB_drew run_loadV loadOr_cells run_storeV storeOr_cells cells_size ones_cells
attribute [local go_sem ↓] execOp_loadV execOp_storeV execOp_loadW execOp_storeW
attribute [local irreducible] Int.lt Int.le
/-- What the loop of New keeps. -/
structure NB (w : World) (t s l d r : Nat) (base : Nat → Val) (W : World) : Prop where
  sa : StoreAt W s l base
  ra : RStoreAt W d r base
  tw : blk W t = some (.cells #[.pointer (some ⟨s, 0, none⟩), .pointer none, .pointer (some ⟨d, 0, none⟩), .pointer none] 34 (0, 0))
  b : Below w.heap.size w W
  z : ∀ p, (base p).s.size ≤ 200
section
variable {w : World} {t s l d r : Nat} {base : Nat → Val} {W W' : World}
theorem NB.below (h : NB w t s l d r base W) (hb : Below W.heap.size W W') : NB w t s l d r base W' :=
  ⟨h.sa.keep (Turn.of_below hb (fun _ => False)) id id, h.ra.below hb, blk_below hb h.tw (blk_lt h.tw), h.b.trans (hb.mono h.b.size), h.z⟩
theorem NB.c0 (h : NB w t s l d r base W) : W.cell? ⟨t, 0, none⟩ = some (.pointer (some ⟨s, 0, none⟩)) := cell_of_row W t 0 _ _ _ h.tw
theorem NB.c2 (h : NB w t s l d r base W) : W.cell? ⟨t, 2, none⟩ = some (.pointer (some ⟨d, 0, none⟩)) := cell_of_row W t 2 _ _ _ h.tw
end
structure NB2 (w : World) (t s l d r : Nat) (base base2 : Nat → Val) (W : World) : Prop where
  sa : StoreAt W s l base
  ra : RStoreAt W d r base2
  tw : blk W t = some (.cells #[.pointer (some ⟨s, 0, none⟩), .pointer none, .pointer (some ⟨d, 0, none⟩), .pointer none] 34 (0, 0))
  b : Below w.heap.size w W
/-- A text, cut to at most 200 bytes. -/
def cutS (s : ByteArray) : ByteArray := s.extract 0 (min (s.size : Int) 200).toNat
theorem cutS_le (s : ByteArray) : (cutS s).size ≤ 200 := by
  unfold cutS
  rw [ByteArray.size_extract]
  omega
theorem putS_le {base : Nat → Val} (h : ∀ p, (base p).s.size ≤ 200) (k n : Int) (x : Val) (hx : x.s.size ≤ 200) : ∀ p, (storePut base k n x p).s.size ≤ 200 := fun p => by
  unfold storePut
  split
  · exact h p
  · unfold updB
    split
    · exact hx
    · exact h p
/-- The objects that so many writes leave. -/
def newB (z : Nat → Wr) : Nat → Nat → Val
  | 0 => fun _ => Val.zero
  | j + 1 => storePut (newB z j) (z j).1.1 (z j).1.2 ((z j).2.text (cutS (z j).2.s))
set_option maxRecDepth 100000 in
set_option maxHeartbeats 4000000 in
theorem dnew_base (a0 : Option Addr) (len0 cap0 : Nat) (z0 : Nat → Wr) (w : World) (A0 : ∀ j, j < len0 → ∃ x, a0 = some x ∧ len0 ≤ cap0 ∧ (∀ i v, (wcs (z0 j))[i]? = some v → w.cell? ((x.add (j * 19)).add i) = some v) ∧ (z0 j).1.1 ≤ 9223372036854775807 ∧ (z0 j).2.s.size ≤ maxLen) :
    Calls Tryz.prog 5 #[.slice a0 len0 cap0] w fun e W' => ∃ t L R base, e = .returned (.pointer (some ⟨t, 0, none⟩)) ∧ Dbl w t L R (VSt.fresh base) (VSt.fresh base) W' ∧ (∀ p, (base p).s.size ≤ 200) ∧ base = newB z0 (min len0 60) := by
  go_enter Tryz.func5, Tryz.ntmps5
  go_wp2_with fail
  refine (new_any _).mono ?_; rintro e w1 ⟨s, l, rfl, hS, t1, gs, gl⟩
  go_wp2_with fail
  refine (rnewstore _).mono ?_; rintro e w2 ⟨d, r, rfl, hR, t2, gd, gr⟩
  have hsl : s ≠ l := by
    obtain ⟨_, _, q1⟩ := hS.cs
    obtain ⟨_, q2, _⟩ := hS.cl
    intro q; rw [q, q2] at q1; injection q1 with q1; injection q1 with _ q1; cases q1
  have hs1 := hS.lts
  have hl1 : l < w1.heap.size := by obtain ⟨_, q2, _⟩ := hS.cl; exact lt_of_heap q2
  have hd2 := lt_of_heap hR.cd
  have hr2 : r < w2.heap.size := by obtain ⟨_, _, _, q, _⟩ := hR.cm; exact lt_of_heap q
  have z1 := t1.size
  have z2 := t2.size
  have hS2 := hS.keep (Turn.of_below t2 (fun _ => False)) id id
  have b2 := t1.trans (t2.mono t1.size)
  have I0 : NB w w2.heap.size s l d r (fun _ => Val.zero) (w2.alloc (.cells #[.pointer (some ⟨s, 0, none⟩), .pointer none, .pointer (some ⟨d, 0, none⟩), .pointer none] 34)) := by
    have bA : Below w2.heap.size w2 (w2.alloc (.cells #[.pointer (some ⟨s, 0, none⟩), .pointer none, .pointer (some ⟨d, 0, none⟩), .pointer none] 34)) := (Below.refl _ _).alloc (Nat.le_refl _) _
    exact ⟨hS2.keep (Turn.of_below bA (fun _ => False)) id id, hR.below bA, heap_alloc_new _ _, b2.trans (bA.mono b2.size), fun p => by simp [Val.zero]⟩
  clear hS hR t1 t2 hS2 b2
  go_upto_region 2 with fail
  generalize (w2.alloc (.cells #[.pointer (some ⟨s, 0, none⟩), .pointer none, .pointer (some ⟨d, 0, none⟩), .pointer none] 34)) = W3 at *
  generalize w2.heap.size = t at *
  have c0 := I0.c0
  go_upto_block 0 with fail
  go_cut [4] from 15 to 57 (fun _ wx => ∃ base, base = newB z0 (min len0 60) ∧ NB w t s l d r base wx)
  case first =>
    --(a
    go_wp2_with fail
    go_loopw [4] (fun i wr => ∃ j : Nat, j ≤ len0 ∧ i = .int .i64 (j : Int) ∧ j ≤ 60 ∧ ∃ base, base = newB z0 j ∧ NB w t s l d r base wr) (fun i _ => len0 - (intOf i).toNat)
    case atStart => exact ⟨0, by omega, rfl, by omega, _, rfl, I0⟩
    case round =>
      clear I0 c0
      obtain ⟨j, hj, rfl, hj60, base, hbase, I⟩ := hrel
      have j0 : (0 : Int) ≤ (j : Int) := by omega
      by_cases hlt : j < len0
      · have l1 : (j : Int) < (len0 : Int) := by omega
        by_cases h60 : (j : Int) < 60
        · obtain ⟨x, rfl, hc, hq, hk, hxs⟩ := A0 j hlt
          have hq' : ∀ i v, (wcs (z0 j))[i]? = some v → wr.cell? ((x.add (j * 19)).add i) = some v := fun i v hv => (I.b.cell (cell_block_lt (hq i v hv))).trans (hq i v hv)
          clear hq A0
          have HN := Lib.hid (show newB z0 (j + 1) = storePut base (z0 j).1.1 (z0 j).1.2 ((z0 j).2.text (cutS (z0 j).2.s)) by rw [hbase]; rfl)
          clear hbase
          have hlw := run_loadW_at wr (x.add (j * 19)) (z0 j) hq'
          generalize (z0 j).1.1 = A at *
          generalize (z0 j).1.2 = C at *
          generalize (z0 j).2 = X at *
          have hsw : (storeW (.pointer (some ⟨wr.heap.size, 0, none⟩)) (.agg (wcells A C X))).run Tryz.prog (wr.alloc (Obj.cells zW 62)) = .ok .skip (wr.alloc (Obj.cells (wcells A C X) 62)) := by
            rw [run_storeW _ _ _ _ _ _ _ (blk_alloc_at wr _ _ rfl) rfl, setRow_alloc_at _ _ _ _ _ rfl]
          go_upto_region 8 with fail
          have bA : Below wr.heap.size wr (wr.alloc (.cells (wcells A C X) 62)) := (Below.refl _ _).alloc (Nat.le_refl _) _
          have b4 : blk (wr.alloc (Obj.cells (wcells A C X) 62)) wr.heap.size = some (.cells (wcells A C X) 62 (0, 0)) := blk_alloc_at _ _ _ rfl
          have I4 := I.below bA
          have hK : wr.heap.size ≠ s ∧ wr.heap.size ≠ l ∧ wr.heap.size ≠ d ∧ wr.heap.size ≠ r ∧ wr.heap.size ≠ t ∧ w.heap.size ≤ wr.heap.size := by
            have h1 := I.sa.lts
            have h2 : l < wr.heap.size := by obtain ⟨_, q2, _⟩ := I.sa.cl; exact lt_of_heap q2
            have h3 := lt_of_heap I.ra.cd
            have h4 : r < wr.heap.size := by obtain ⟨_, _, _, q, _⟩ := I.ra.cm; exact lt_of_heap q
            have h5 := blk_lt I.tw
            have h6 := I.b.size
            omega
          clear hlw hsw bA I hq'
          generalize wr.alloc (Obj.cells (wcells A C X) 62) = W4 at *
          generalize wr.heap.size = K at *
          have c18 : W4.cell? ⟨K, 18, none⟩ = some (.string X.s) := cell_of_row _ _ 18 _ _ _ b4
          have f18 := frozen_blk b4 18
          go_upto_region 9 with fail
          have b5 := blk_setCell_same b4 18 (Value.string (X.s.extract 0 (min (X.s.size : Int) 200).toNat))
          rw [wcells_text] at b5
          have T5 : Turn (· = K) W4 (W4.setCell ⟨K, 18, none⟩ (Value.string (X.s.extract 0 (min (X.s.size : Int) 200).toNat))) := (Turn.refl (· = K) W4).setCell (p := ⟨K, 18, none⟩) (Or.inl (show K = K from rfl)) _
          have I5 : NB w t s l d r base (W4.setCell ⟨K, 18, none⟩ (Value.string (X.s.extract 0 (min (X.s.size : Int) 200).toNat))) :=
            ⟨I4.sa.keep T5 (fun e => hK.1 (Eq.symm e)) (fun e => hK.2.1 (Eq.symm e)), I4.ra.keep T5 (fun e => hK.2.2.1 (Eq.symm e)) (fun e => hK.2.2.2.1 (Eq.symm e)), blk_of_turn T5 I4.tw (fun e => hK.2.2.2.2.1 (Eq.symm e)), I4.b.trans (T5.below (B := w.heap.size) I4.b.size (fun i (e : i = K) => by omega)), I4.z⟩
          have hX : (X.text (cutS X.s)).s.size ≤ 200 := cutS_le X.s
          rw [show X.text (X.s.extract 0 (min (X.s.size : Int) 200).toNat) = X.text (cutS X.s) from rfl] at b5
          clear I4 b4 c18 f18 T5
          generalize W4.setCell ⟨K, 18, none⟩ (Value.string (X.s.extract 0 (min (X.s.size : Int) 200).toNat)) = W5 at *
          generalize X.text (cutS X.s) = Y at *
          have t6 : Below W5.heap.size W5 W5.drew := below_drewN (Below.refl _ W5) 1
          have I6 := I5.below t6
          have s6 := wa_of ((t6.block K (lt_of_heap b5)).trans b5)
          clear I5 b5 t6
          refine wp_region_held_drew (S := fun W => WA K A C Y W ∧ W.cell? ⟨t, 0, none⟩ = some (.pointer (some ⟨s, 0, none⟩))) (by kernel_rfl) ⟨s6, I6.c0⟩ (fun hHeld => ?_)
          clear s6
          refine reg_take (i := 0) (v := ?_) rfl rfl (by kernel_rfl) (by kernel_rfl) (by kernel_rfl) (fun _ _ _ h => h) (by assumption) (by rfl) ?_ ?_
          rotate_left 1
          · (intro w hSw; (try dsimp only at hSw); go_simp; try with_reducible rfl)
          try simp only [List.setIfInBounds_toArray, List.set_cons_zero, List.set_cons_succ]
          refine reg_take (i := 1) (v := ?_) rfl rfl (by kernel_rfl) (by kernel_rfl) (by kernel_rfl) (fun _ _ _ h => h) (by assumption) (by rfl) ?_ ?_
          rotate_left 1
          · (intro w hSw; (try dsimp only at hSw); go_simp; try with_reducible rfl)
          try simp only [List.setIfInBounds_toArray, List.set_cons_zero, List.set_cons_succ]
          refine reg_take (i := 2) (v := ?_) rfl rfl (by kernel_rfl) (by kernel_rfl) (by kernel_rfl) (fun _ _ _ h => h) (by assumption) (by rfl) ?_ ?_
          rotate_left 1
          · (intro w hSw; (try dsimp only at hSw); go_simp; try with_reducible rfl)
          try simp only [List.setIfInBounds_toArray, List.set_cons_zero, List.set_cons_succ]
          refine reg_take (i := 3) (v := ?_) rfl rfl (by kernel_rfl) (by kernel_rfl) (by kernel_rfl) (fun _ _ _ h => h) (by assumption) (by rfl) ?_ ?_
          rotate_left 1
          · (intro w hSw; (try dsimp only at hSw); go_simp; try with_reducible rfl)
          try simp only [List.setIfInBounds_toArray, List.set_cons_zero, List.set_cons_succ]
          refine reg_take (i := 4) (v := ?_) rfl rfl (by kernel_rfl) (by kernel_rfl) (by kernel_rfl) (fun _ _ _ h => h) (by assumption) (by rfl) ?_ ?_
          rotate_left 1
          · (intro w hSw; (try dsimp only at hSw); go_simp; try with_reducible rfl)
          try simp only [List.setIfInBounds_toArray, List.set_cons_zero, List.set_cons_succ]
          refine reg_take (i := 5) (v := ?_) rfl rfl (by kernel_rfl) (by kernel_rfl) (by kernel_rfl) (fun _ _ _ h => h) (by assumption) (by rfl) ?_ ?_
          rotate_left 1
          · (intro w hSw; (try dsimp only at hSw); go_simp; try with_reducible rfl)
          try simp only [List.setIfInBounds_toArray, List.set_cons_zero, List.set_cons_succ]
          refine reg_take (i := 6) (v := ?_) rfl rfl (by kernel_rfl) (by kernel_rfl) (by kernel_rfl) (fun _ _ _ h => h) (by assumption) (by rfl) ?_ ?_
          rotate_left 1
          · (intro w hSw; (try dsimp only at hSw); go_simp; try with_reducible rfl)
          try simp only [List.setIfInBounds_toArray, List.set_cons_zero, List.set_cons_succ]
          refine reg_take (i := 7) (v := (.agg Y.cells)) rfl rfl (by kernel_rfl) (by kernel_rfl) (by kernel_rfl) (fun _ _ _ h => h) (by assumption) (by rfl) (fun W hW => run_loadV_mid W K 2 _ Y _ _ hW.1.2.2 (wcells_ext A C Y)) ?_
          try simp only [List.setIfInBounds_toArray, List.set_cons_zero, List.set_cons_succ]
          refine reg_step (i := 8) (by kernel_rfl) rfl (by rfl) (fun KC hKC => ?_)
          go_simp
          refine (sput_any s l _ A C Y hsl _ I6.sa).mono ?_; rintro e w7 ⟨rfl, hS7, T7⟩
          have s7 := wa_turn hHeld.1 T7 hK.2.1
          have htl : t ≠ l := by
            obtain ⟨_, q1, _⟩ := I6.sa.cl
            intro e
            have hT := I6.tw
            subst e
            unfold blk at hT
            rw [q1] at hT
            injection hT with hT
            injection hT with _ hT
            cases hT
          have hlr : l ≠ r := by
            obtain ⟨_, q1, _⟩ := I6.sa.cl
            obtain ⟨_, _, _, q2, _⟩ := I6.ra.cm
            exact cells_ne_map q1 q2
          have hlw : w.heap.size ≤ l := by omega
          have hR7 := I6.ra.keep T7 (fun e => by have : d = l := e; omega) (fun e => hlr (Eq.symm e))
          have hT7 := blk_of_turn T7 I6.tw htl
          have hB7 := I6.b.trans (T7.below (B := w.heap.size) I6.b.size (fun i (e : i = l) => by omega))
          have hz7 := putS_le I6.z A C Y hX
          have I7 : NB2 w t s l d r (storePut base A C Y) base w7 := ⟨hS7, hR7, hT7, hB7⟩
          have c07 := cell_of_row w7 t 0 _ _ _ hT7
          clear I6 hHeld T7 hS7 hR7 hT7 hB7
          refine hKC.out _ _ ?_ (fun hHeld => ?_)
          · exact ⟨s7, c07⟩
          clear hKC KC c07
          refine wpAnyH_done (by kernel_rfl) ?_ _
          clear hHeld
          go_upto_region 10 with fail
          have t8 : Below w7.heap.size w7 w7.drew := below_drewN (Below.refl _ w7) 1
          have s8 := wa_of ((t8.block K (lt_of_heap s7.2.2)).trans s7.2.2)
          have hS8 := I7.sa.keep (Turn.of_below t8 (fun _ => False)) id id
          have hR8 := I7.ra.below t8
          have hT8 := blk_below t8 I7.tw (blk_lt I7.tw)
          have hB8 := I7.b.trans (t8.mono I7.b.size)
          have c28 : w7.drew.cell? ⟨t, 2, none⟩ = some (.pointer (some ⟨d, 0, none⟩)) := cell_of_row _ t 2 _ _ _ hT8
          clear s7 I7 t8
          refine wp_region_held_drew (S := fun W => WA K A C Y W ∧ W.cell? ⟨t, 2, none⟩ = some (.pointer (some ⟨d, 0, none⟩))) (by kernel_rfl) ⟨s8, c28⟩ (fun hHeld => ?_)
          clear s8 c28
          refine reg_take (i := 0) (v := ?_) rfl rfl (by kernel_rfl) (by kernel_rfl) (by kernel_rfl) (fun _ _ _ h => h) (by assumption) (by rfl) ?_ ?_
          rotate_left 1
          · (intro w hSw; (try dsimp only at hSw); go_simp; try with_reducible rfl)
          try simp only [List.setIfInBounds_toArray, List.set_cons_zero, List.set_cons_succ]
          refine reg_take (i := 1) (v := ?_) rfl rfl (by kernel_rfl) (by kernel_rfl) (by kernel_rfl) (fun _ _ _ h => h) (by assumption) (by rfl) ?_ ?_
          rotate_left 1
          · (intro w hSw; (try dsimp only at hSw); go_simp; try with_reducible rfl)
          try simp only [List.setIfInBounds_toArray, List.set_cons_zero, List.set_cons_succ]
          refine reg_take (i := 2) (v := ?_) rfl rfl (by kernel_rfl) (by kernel_rfl) (by kernel_rfl) (fun _ _ _ h => h) (by assumption) (by rfl) ?_ ?_
          rotate_left 1
          · (intro w hSw; (try dsimp only at hSw); go_simp; try with_reducible rfl)
          try simp only [List.setIfInBounds_toArray, List.set_cons_zero, List.set_cons_succ]
          refine reg_take (i := 3) (v := ?_) rfl rfl (by kernel_rfl) (by kernel_rfl) (by kernel_rfl) (fun _ _ _ h => h) (by assumption) (by rfl) ?_ ?_
          rotate_left 1
          · (intro w hSw; (try dsimp only at hSw); go_simp; try with_reducible rfl)
          try simp only [List.setIfInBounds_toArray, List.set_cons_zero, List.set_cons_succ]
          refine reg_take (i := 4) (v := ?_) rfl rfl (by kernel_rfl) (by kernel_rfl) (by kernel_rfl) (fun _ _ _ h => h) (by assumption) (by rfl) ?_ ?_
          rotate_left 1
          · (intro w hSw; (try dsimp only at hSw); go_simp; try with_reducible rfl)
          try simp only [List.setIfInBounds_toArray, List.set_cons_zero, List.set_cons_succ]
          refine reg_take (i := 5) (v := ?_) rfl rfl (by kernel_rfl) (by kernel_rfl) (by kernel_rfl) (fun _ _ _ h => h) (by assumption) (by rfl) ?_ ?_
          rotate_left 1
          · (intro w hSw; (try dsimp only at hSw); go_simp; try with_reducible rfl)
          try simp only [List.setIfInBounds_toArray, List.set_cons_zero, List.set_cons_succ]
          refine reg_take (i := 6) (v := ?_) rfl rfl (by kernel_rfl) (by kernel_rfl) (by kernel_rfl) (fun _ _ _ h => h) (by assumption) (by rfl) ?_ ?_
          rotate_left 1
          · (intro w hSw; (try dsimp only at hSw); go_simp; try with_reducible rfl)
          try simp only [List.setIfInBounds_toArray, List.set_cons_zero, List.set_cons_succ]
          refine reg_take (i := 7) (v := (.agg Y.cells)) rfl rfl (by kernel_rfl) (by kernel_rfl) (by kernel_rfl) (fun _ _ _ h => h) (by assumption) (by rfl) (fun W hW => run_loadV_mid W K 2 _ Y _ _ hW.1.2.2 (wcells_ext A C Y)) ?_
          try simp only [List.setIfInBounds_toArray, List.set_cons_zero, List.set_cons_succ]
          refine reg_step (i := 8) (by kernel_rfl) rfl (by rfl) (fun KC hKC => ?_)
          go_simp
          refine (rput_any d r _ A C Y hk _ hR8).mono ?_; rintro e w9 ⟨rfl, hR9, T9⟩
          have s9 := wa_turn hHeld.1 T9 hK.2.2.2.1
          have htr : t ≠ r := by
            obtain ⟨_, _, _, q2, _⟩ := hR8.cm
            exact cells_ne_map hT8 q2
          have I9 : NB w t s l d r (storePut base A C Y) w9 := ⟨hS8.keep T9 (fun e => by have : s = r := e; omega) hlr, hR9, blk_of_turn T9 hT8 htr, hB8.trans (T9.below (B := w.heap.size) hB8.size (fun i (e : i = r) => by omega)), hz7⟩
          have c29 := I9.c2
          clear hHeld T9 hS8 hR8 hT8 hB8 hR9
          refine hKC.out _ _ ?_ (fun hHeld => ?_)
          · exact ⟨s9, c29⟩
          clear hKC KC c29
          refine wpAnyH_done (by kernel_rfl) ?_ _
          clear hHeld s9
          go_wp2_with fail
          exact ⟨⟨j + 1, by omega, by go_num, by omega, _, HN.out.symm, I9⟩, by simp [intOf]; omega⟩
        · have HB := Lib.hid (show base = newB z0 (min len0 60) by rw [hbase]; congr 1; omega)
          clear hbase
          go_wp2_with fail
          go_meet
          case rel => exact ⟨base, HB.out, I⟩
      · have l1 : ¬ (j : Int) < (len0 : Int) := by omega
        have HB := Lib.hid (show base = newB z0 (min len0 60) by rw [hbase]; congr 1; omega)
        clear hbase
        go_wp2_with fail
        go_meet
        case rel => exact ⟨base, HB.out, I⟩
    --)a
  case rest =>
    clear I0 c0
    obtain ⟨base, hbase, I⟩ := hcut
    have HB := Lib.hid hbase
    clear hbase
    go_wp2_with fail
    refine (dlook_any w t s l d r _ _ _ _ _ I.sa I.ra I.tw I.b (by omega) ⟨by omega, by omega⟩ hsl (by omega) (by omega)).mono ?_; rintro e w6 ⟨rfl, L, R, e1, e2, e3, e4, H6, T6⟩
    have hz := I.z
    have c1 := H6.cv
    clear I T6
    go_wp2_with fail
    go_ret
    exact ⟨t, L, R, base, rfl, H6, hz, HB.out⟩
theorem dnew_any (a0 : Option Addr) (len0 cap0 : Nat) (z0 : Nat → Wr) (w : World) (w0 : IsWrites w a0 len0 cap0 z0) :
    Calls Tryz.prog 5 #[.slice a0 len0 cap0] w fun e W' => ∃ t L R base, e = .returned (.pointer (some ⟨t, 0, none⟩)) ∧ Dbl w t L R (VSt.fresh base) (VSt.fresh base) W' ∧ ∀ p, (base p).s.size ≤ 200 :=
  (dnew_base a0 len0 cap0 z0 w w0.at).mono fun e W' ⟨t, L, R, base, a, b, c, _⟩ => ⟨t, L, R, base, a, b, c⟩
end Go.Proofs.YtfcgkjbifnhjjaaGreatDoor.St
