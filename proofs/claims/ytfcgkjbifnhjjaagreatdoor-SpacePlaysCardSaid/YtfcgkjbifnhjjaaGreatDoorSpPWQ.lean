/- The walk of cloisterlaw16.SpacePlays. No condition but those written in each statement. -/
import Derived.Test.YtfcgkjbifnhjjaaGreatDoorSpNQ
import Derived.Test.YtfcgkjbifnhjjaaGreatDoorDoorSQ
import Derived.Deep.CutBlock
namespace Go.Proofs.YtfcgkjbifnhjjaaGreatDoor.St
open Go.RowKit
set_option linter.unusedVariables false
attribute [local go_sem] blk_alloc_at blk_alloc_past blk_drew blk_drewN blk_setB_same blk_setB_other blk_setRow_other setRow_alloc_at setRow_alloc_past setRow_drewN setRow_drew setB_size setB_cell setB_frozen setB_alloc_past setB_drewN setB_drew run_loadV loadOr_cells run_storeV storeOr_cells cells_size ones_cells
attribute [local go_sem ↓] execOp_loadV execOp_storeV
attribute [local irreducible] Int.lt Int.le
/-! ### the calls on either store -/
section
variable {w W : World} {t : Nat} {L : Lay} {R : RLay} {a b : VSt}
theorem grow_L (H : Dbl w t L R a b W) (hB : Bx w) (I : SI a) (p n : Int) (hn : n ≤ 9223372036854775807) :
    Calls Tryz.prog 6 #[.pointer (some ⟨L.v, 0, none⟩), .int .i64 p, .int .i64 n] W fun e W' => e = .returned (.bool (gwOk a p n)) ∧ ViewAt W' L (gwEnd a p n) ∧ Turn (fun k => k = L.r ∨ k = L.m) W W' := by
  have hBW := hB.below (Nat.le_refl _) H.p.b
  unfold gwOk gwEnd
  by_cases c : qState a p = 0 ∨ n < 0
  · rw [if_pos c, if_pos c]
    exact (sgrow_no L a p n (by omega) W H.p.v).mono fun e W' ⟨x, y, z⟩ => ⟨x, y, z.mono fun _ _ => Or.inl⟩
  · rw [if_neg c, if_neg c]
    obtain ⟨N, rfl⟩ := Int.eq_ofNat_of_zero_le (show 0 ≤ n by omega)
    exact sgrow_any L a p N (beq_eq_false_iff_ne.2 (fun q => c (Or.inl q))) _ _ _ rfl rfl rfl (I.x p) (I.m p) hn (fun q i hi => gN_some _ N q i hi) W H.p.v hBW
theorem grow_R (H : Dbl w t L R a b W) (I : SI b) (p n : Int) (hn : n ≤ 9223372036854775807) :
    Calls Tryz.prog 7 #[.pointer (some ⟨R.q, 0, none⟩), .int .i64 p, .int .i64 n] W fun e W' => e = .returned (.bool (gwOk b p n)) ∧ RViewAt W' R (gwEnd b p n) ∧ Turn (fun k => k = R.r ∨ k = R.m) W W' := by
  unfold gwOk gwEnd
  by_cases c : qState b p = 0 ∨ n < 0
  · rw [if_pos c, if_pos c]
    exact (rgrow_no R b p n (by omega) W H.p.r).mono fun e W' ⟨x, y, z⟩ => ⟨x, y, rmaps z⟩
  · rw [if_neg c, if_neg c]
    obtain ⟨N, rfl⟩ := Int.eq_ofNat_of_zero_le (show 0 ≤ n by omega)
    exact rgrow_any R b p N (beq_eq_false_iff_ne.2 (fun q => c (Or.inl q))) _ _ _ rfl rfl rfl (I.x p) (I.m p) hn W H.p.r
/-- A list of pages that a call told. -/
def PgR (B : Nat) (W : World) (v : Value) (ps : List Int) : Prop := ∃ a cap, v = .slice a ps.length cap ∧ NR W a ps ∧ ∀ x, a = some x → ∀ i, i < ps.length → B ≤ (x.add i).block
theorem pgR_of {B : Nat} {W : World} {v : Value} {ps : List Int} {ok : Bool} (h : ShRes ok B W v ps) : PgR B W v (if ok = true then ps else []) := by
  cases ok with
  | true =>
    rw [if_pos rfl]
    obtain ⟨a, cap, e, hc⟩ := (h.1 rfl).cell
    refine ⟨a, cap, e, fun i hi => ?_, fun x hx i hi => ?_⟩
    · obtain ⟨x, e, _, _, c⟩ := hc i hi
      exact ⟨x, e, c⟩
    · obtain ⟨x', e', h1, h2, _⟩ := hc i hi
      rw [hx] at e'
      cases e'
      rw [h2]; exact h1
  | false => exact ⟨none, 0, h.2 rfl, fun i hi => absurd hi (by simp), fun x hx => by cases hx⟩
theorem PgR.turn {S : Nat → Prop} {B : Nat} {W W' : World} {v : Value} {ps : List Int} (h : PgR B W v ps) (hT : Turn S W W') (hS : ∀ i, S i → i < B) : PgR B W' v ps := by
  obtain ⟨a, cap, e, hn, hb⟩ := h
  refine ⟨a, cap, e, fun i hi => ?_, hb⟩
  obtain ⟨x, e2, c⟩ := hn i hi
  have hlt := World.block_lt_of_cell? _ _ c
  refine ⟨x, e2, ?_⟩
  rw [World.cell?_of_block (hT.block (x.add i).block (by simpa using hlt) (fun q => by have := hS _ q; have := hb x e2 i hi; omega))]
  exact c
theorem shrink_L (H : Dbl w t L R a b W) (I : SI a) (p n : Int) (hn : n ≤ 9223372036854775807) :
    Calls Tryz.prog 8 #[.pointer (some ⟨L.v, 0, none⟩), .int .i64 p, .int .i64 n] W fun e W' => ∃ v, e = .returned (.tuple #[v, .bool (swOk a p n)]) ∧ PgR W.heap.size W' v (swL a p n) ∧ ViewAt W' L (swEnd a p n) ∧ Turn (fun k => k = L.r ∨ k = L.m) W W' := by
  unfold swL swOk swEnd
  by_cases c : qState a p = 0 ∨ n < 0
  · rw [if_pos c, if_pos c]
    exact (sshrink_no L a p n (by omega) W H.p.v).mono fun e W' ⟨x, y, z⟩ => ⟨_, x, pgR_of (ok := false) (ps := []) ⟨fun q => (by cases q), fun _ => rfl⟩, y, z.mono fun _ _ => Or.inl⟩
  · rw [if_neg c, if_neg c]
    exact (sshrink_any L a p n (beq_eq_false_iff_ne.2 (fun q => c (Or.inl q))) _ _ _ rfl rfl rfl (I.x p) (I.m p) (by omega) hn W H.p.v).mono fun e W' ⟨v, x, s, y, z⟩ => ⟨v, x, pgR_of s, y, z⟩
theorem shrink_R (H : Dbl w t L R a b W) (I : SI b) (p n : Int) (hn : n ≤ 9223372036854775807) :
    Calls Tryz.prog 9 #[.pointer (some ⟨R.q, 0, none⟩), .int .i64 p, .int .i64 n] W fun e W' => ∃ v, e = .returned (.tuple #[v, .bool (swOk b p n)]) ∧ PgR W.heap.size W' v (swL b p n) ∧ RViewAt W' R (swEnd b p n) ∧ Turn (fun k => k = R.r ∨ k = R.m) W W' := by
  unfold swL swOk swEnd
  by_cases c : qState b p = 0 ∨ n < 0
  · rw [if_pos c, if_pos c]
    exact (rshrink_no R b p n (by omega) W H.p.r).mono fun e W' ⟨x, y, z⟩ => ⟨_, x, pgR_of (ok := false) (ps := []) ⟨fun q => (by cases q), fun _ => rfl⟩, y, rmaps z⟩
  · rw [if_neg c, if_neg c]
    obtain ⟨N, rfl⟩ := Int.eq_ofNat_of_zero_le (show 0 ≤ n by omega)
    exact (rshrink_any R b p N (beq_eq_false_iff_ne.2 (fun q => c (Or.inl q))) _ _ _ rfl rfl rfl (I.x p) (I.m p) hn W H.p.r).mono fun e W' ⟨v, x, s, y, z⟩ => ⟨v, x, pgR_of s, y, z⟩
theorem swL_len (st : VSt) (I : SI st) (p n : Int) : (swL st p n).length ≤ 1000000 := by
  unfold swL
  split
  · unfold shL pgL tailS
    have := I.x p
    rw [List.length_map, size_list, ByteArray.size_extract]
    omega
  · simp
end
/-- An ask kept in a block of the call's own. -/
abbrev BQ (G : Nat) (z : Nat → Int) (W : World) : Prop := blk W G = some (.cells #[.int .i64 (z 0), .int .i64 (z 1), .int .i64 (z 2)] 27 (0, 0))
abbrev BC (G : Nat) (z : Nat → Int) (W : World) : Prop := W.cell? ⟨G, 0, none⟩ = some (.int .i64 (z 0)) ∧ W.cell? ⟨G, 1, none⟩ = some (.int .i64 (z 1)) ∧ W.cell? ⟨G, 2, none⟩ = some (.int .i64 (z 2))
theorem bc_of {W : World} {G : Nat} {z : Nat → Int} (h : BQ G z W) : BC G z W := ⟨cell_of_row W G 0 _ _ _ h, cell_of_row W G 1 _ _ _ h, cell_of_row W G 2 _ _ _ h⟩
/-- What the loop keeps. -/
def BRel (w : World) (t : Nat) (W : World) : Prop := ∃ st L R, Dbl w t L R st st W ∧ SI st
section
variable {w : World} {t : Nat} {L : Lay} {R : RLay} {a b : VSt} {W W' : World} {G : Nat} {z : Nat → Int}
theorem bq_below (h : BQ G z W) (hb : Below W.heap.size W W') : BQ G z W' := (hb.block G (lt_of_heap h)).trans h
theorem Dbl.bqL (H : Dbl w t L R a b W) (h : BQ G z W) {S : Nat → Prop} (T : Turn S W W') (hS : ∀ i, S i → i = L.l ∨ i = L.r ∨ i = L.m) : BQ G z W' :=
  blk_of_turn T h (fun q => by have := hS G q; have := H.p.far h (by decide); omega)
theorem Dbl.bqR (H : Dbl w t L R a b W) (h : BQ G z W) {S : Nat → Prop} (T : Turn S W W') (hS : ∀ i, S i → i = R.s ∨ i = R.r ∨ i = R.m) : BQ G z W' :=
  blk_of_turn T h (fun q => by have := hS G q; have := H.p.far h (by decide); omega)
end
set_option maxRecDepth 100000 in
set_option maxHeartbeats 4000000 in
theorem spacePlays_walk (a0 : Option Addr) (len0 cap0 : Nat) (z0 : Nat → Wr) (a1 : Option Addr) (len1 cap1 : Nat) (z1 : Nat → Nat → Int) (w : World) (w0 : IsWrites w a0 len0 cap0 z0) (w1 : IsRows 3 w a1 len1 cap1 z1) (hM : Bx w) :
    Calls Tryz.prog 3 #[.slice a0 len0 cap0, .slice a1 len1 cap1] w fun e w' => e = .returned (.bool true) ∧ Below w.heap.size w w' := by
  have hz := zero_val
  go_enter Tryz.func3, Tryz.ntmps3
  go_wp2_with fail
  refine (dnew_any a0 len0 cap0 z0 w w0).mono ?_; rintro e w2 ⟨t, L, R, base, rfl, H, hzb⟩
  have I0 : BRel w t w2 := ⟨_, L, R, H, SI.fresh hzb⟩
  clear H hzb w0
  go_upto_block 0 with fail
  go_cut [4, 6] from 17 to 119 (fun rt _ wx => rt = .bool false ∧ BRel w t wx)
  case first =>
    go_wp2_with fail
    go_loopw [4, 6] (fun rt i wr => rt = .bool false ∧ ∃ j : Nat, j ≤ len1 ∧ i = .int .i64 (j : Int) ∧ BRel w t wr) (fun _ i _ => len1 - (intOf i).toNat)
    case atStart => exact ⟨rfl, 0, by omega, rfl, I0⟩
    case round =>
      as_aux_lemma =>
        clear I0
        obtain ⟨rfl, j, hj, rfl, st, L, R, H, O⟩ := hrel
        have j0 : (0 : Int) ≤ (j : Int) := by omega
        by_cases hlt : j < len1
        · have l1 : (j : Int) < (len1 : Int) := by omega
          by_cases h25 : (j : Int) < 25
          · rcases w1 with ⟨_, q, _⟩ | ⟨x, rfl, hlc, hc, hx⟩
            · omega
            obtain ⟨hf, hf0⟩ := rows_field hx H.p.b j hlt
            have y0 := hf0 (by decide)
            have y1 := hf 1 (by decide) (by decide)
            have y2 := hf 2 (by decide) (by decide)
            have hn := wf_le (hx j hlt 2 (by decide)).2
            clear hx hf hf0
            generalize z1 j = z at *
            go_upto_region 8 with fail
            have bA : Below wr.heap.size wr (wr.alloc (Obj.cells #[.int .i64 (z 0), .int .i64 (z 1), .int .i64 (z 2)] 27)) := (Below.refl _ _).alloc (Nat.le_refl _) _
            have hq : BQ wr.heap.size z (wr.alloc (Obj.cells #[.int .i64 (z 0), .int .i64 (z 1), .int .i64 (z 2)] 27)) := heap_alloc_new _ _
            have H0 := H.below bA
            clear bA H y0 y1 y2
            generalize wr.alloc (Obj.cells #[.int .i64 (z 0), .int .i64 (z 1), .int .i64 (z 2)] 27) = W1 at *
            generalize wr.heap.size = G at *
            go_upto_region 9 with fail
            have c0 := (bc_of hq).1
            go_upto_block 2 with fail
            clear c0
            go_cut [8] from 30 to 115 (fun ok wx => ok = .bool true ∧ BRel w t wx ∧ BQ G z wx)
            case first =>
              by_cases k1 : z 0 = 1
              ·
                as_aux_lemma =>
                  go_upto_region 11 with fail
                  have b0 : Below W1.heap.size W1 W1.drew := below_drewN (Below.refl _ W1) 1
                  have H1 := H0.below b0
                  have q1 := bq_below hq b0
                  clear b0 H0 hq
                  refine wp_region_held_drew (S := fun W => TC t L.s L.v R.d R.q W ∧ BC G z W) (by kernel_rfl) ⟨H1.tc, bc_of q1⟩ (fun hHeld => ?_)
                  refine reg_take (i := 0) (v := ?_) rfl rfl (by kernel_rfl) (by kernel_rfl) (by kernel_rfl) (fun _ _ _ h => h) (by assumption) (by rfl) ?_ ?_
                  rotate_left 1
                  · (intro w hSw; (try dsimp only at hSw); go_simp; try with_reducible rfl)
                  try simp only [List.setIfInBounds_toArray, List.set_cons_zero, List.set_cons_succ]
                  refine reg_take (i := 1) (v := ?_) rfl rfl (by kernel_rfl) (by kernel_rfl) (by kernel_rfl) (fun _ _ _ h => h) (by assumption) (by rfl) ?_ ?_
                  rotate_left 1
                  · (intro w hSw; (try dsimp only at hSw); go_simp; try with_reducible rfl)
                  try simp only [List.setIfInBounds_toArray, List.set_cons_zero, List.set_cons_succ]
                  refine reg_take (i := 2) (v := ?_) rfl rfl (by kernel_rfl) (by kernel_rfl) (by kernel_rfl) (fun _ _ _ h => h) (by assumption) (by rfl) ?_ ?_
                  rotate_left 1
                  · (intro w hSw; (try dsimp only at hSw); go_simp; try with_reducible rfl)
                  try simp only [List.setIfInBounds_toArray, List.set_cons_zero, List.set_cons_succ]
                  refine reg_take (i := 3) (v := ?_) rfl rfl (by kernel_rfl) (by kernel_rfl) (by kernel_rfl) (fun _ _ _ h => h) (by assumption) (by rfl) ?_ ?_
                  rotate_left 1
                  · (intro w hSw; (try dsimp only at hSw); go_simp; try with_reducible rfl)
                  try simp only [List.setIfInBounds_toArray, List.set_cons_zero, List.set_cons_succ]
                  refine reg_take (i := 4) (v := ?_) rfl rfl (by kernel_rfl) (by kernel_rfl) (by kernel_rfl) (fun _ _ _ h => h) (by assumption) (by rfl) ?_ ?_
                  rotate_left 1
                  · (intro w hSw; (try dsimp only at hSw); go_simp; try with_reducible rfl)
                  try simp only [List.setIfInBounds_toArray, List.set_cons_zero, List.set_cons_succ]
                  refine reg_take (i := 5) (v := ?_) rfl rfl (by kernel_rfl) (by kernel_rfl) (by kernel_rfl) (fun _ _ _ h => h) (by assumption) (by rfl) ?_ ?_
                  rotate_left 1
                  · (intro w hSw; (try dsimp only at hSw); go_simp; try with_reducible rfl)
                  try simp only [List.setIfInBounds_toArray, List.set_cons_zero, List.set_cons_succ]
                  refine reg_take (i := 6) (v := ?_) rfl rfl (by kernel_rfl) (by kernel_rfl) (by kernel_rfl) (fun _ _ _ h => h) (by assumption) (by rfl) ?_ ?_
                  rotate_left 1
                  · (intro w hSw; (try dsimp only at hSw); go_simp; try with_reducible rfl)
                  try simp only [List.setIfInBounds_toArray, List.set_cons_zero, List.set_cons_succ]
                  refine reg_take (i := 7) (v := ?_) rfl rfl (by kernel_rfl) (by kernel_rfl) (by kernel_rfl) (fun _ _ _ h => h) (by assumption) (by rfl) ?_ ?_
                  rotate_left 1
                  · (intro w hSw; (try dsimp only at hSw); go_simp; try with_reducible rfl)
                  try simp only [List.setIfInBounds_toArray, List.set_cons_zero, List.set_cons_succ]
                  refine reg_take (i := 9) (v := ?_) rfl rfl (by kernel_rfl) (by kernel_rfl) (by kernel_rfl) (fun _ _ _ h => h) (by assumption) (by rfl) ?_ ?_
                  rotate_left 1
                  · (intro w hSw; (try dsimp only at hSw); go_simp; try with_reducible rfl)
                  try simp only [List.setIfInBounds_toArray, List.set_cons_zero, List.set_cons_succ]
                  refine reg_take (i := 10) (v := ?_) rfl rfl (by kernel_rfl) (by kernel_rfl) (by kernel_rfl) (fun _ _ _ h => h) (by assumption) (by rfl) ?_ ?_
                  rotate_left 1
                  · (intro w hSw; (try dsimp only at hSw); go_simp; try with_reducible rfl)
                  try simp only [List.setIfInBounds_toArray, List.set_cons_zero, List.set_cons_succ]
                  refine reg_take (i := 11) (v := ?_) rfl rfl (by kernel_rfl) (by kernel_rfl) (by kernel_rfl) (fun _ _ _ h => h) (by assumption) (by rfl) ?_ ?_
                  rotate_left 1
                  · (intro w hSw; (try dsimp only at hSw); go_simp; try with_reducible rfl)
                  try simp only [List.setIfInBounds_toArray, List.set_cons_zero, List.set_cons_succ]
                  refine reg_take (i := 12) (v := ?_) rfl rfl (by kernel_rfl) (by kernel_rfl) (by kernel_rfl) (fun _ _ _ h => h) (by assumption) (by rfl) ?_ ?_
                  rotate_left 1
                  · (intro w hSw; (try dsimp only at hSw); go_simp; try with_reducible rfl)
                  try simp only [List.setIfInBounds_toArray, List.set_cons_zero, List.set_cons_succ]
                  refine reg_take (i := 13) (v := ?_) rfl rfl (by kernel_rfl) (by kernel_rfl) (by kernel_rfl) (fun _ _ _ h => h) (by assumption) (by rfl) ?_ ?_
                  rotate_left 1
                  · (intro w hSw; (try dsimp only at hSw); go_simp; try with_reducible rfl)
                  try simp only [List.setIfInBounds_toArray, List.set_cons_zero, List.set_cons_succ]
                  refine reg_take (i := 14) (v := ?_) rfl rfl (by kernel_rfl) (by kernel_rfl) (by kernel_rfl) (fun _ _ _ h => h) (by assumption) (by rfl) ?_ ?_
                  rotate_left 1
                  · (intro w hSw; (try dsimp only at hSw); go_simp; try with_reducible rfl)
                  try simp only [List.setIfInBounds_toArray, List.set_cons_zero, List.set_cons_succ]
                  refine reg_take (i := 15) (v := ?_) rfl rfl (by kernel_rfl) (by kernel_rfl) (by kernel_rfl) (fun _ _ _ h => h) (by assumption) (by rfl) ?_ ?_
                  rotate_left 1
                  · (intro w hSw; (try dsimp only at hSw); go_simp; try with_reducible rfl)
                  try simp only [List.setIfInBounds_toArray, List.set_cons_zero, List.set_cons_succ]
                  refine reg_take (i := 16) (v := ?_) rfl rfl (by kernel_rfl) (by kernel_rfl) (by kernel_rfl) (fun _ _ _ h => h) (by assumption) (by rfl) ?_ ?_
                  rotate_left 1
                  · (intro w hSw; (try dsimp only at hSw); go_simp; try with_reducible rfl)
                  try simp only [List.setIfInBounds_toArray, List.set_cons_zero, List.set_cons_succ]
                  refine reg_step (i := 8) (by kernel_rfl) rfl (by rfl) (fun KC hKC => ?_)
                  go_simp
                  refine (grow_L H1 hM O (z 1) (z 2) hn).mono ?_; rintro e w2 ⟨rfl, hv2, t2⟩
                  have H2 := H1.left hv2 t2 (fun i q => by omega)
                  have q2 := H1.bqL q1 t2 (fun i q => by omega)
                  clear H1 q1 hv2 t2 hHeld
                  refine hKC.out _ _ ?_ (fun hHeld => ?_)
                  · exact ⟨H2.tc, bc_of q2⟩
                  clear hKC KC
                  refine reg_step (i := 17) (by kernel_rfl) rfl (by rfl) (fun KC hKC => ?_)
                  go_simp
                  refine (grow_R H2 O (z 1) (z 2) hn).mono ?_; rintro e w3 ⟨rfl, hv3, t3⟩
                  have H3 := H2.right hv3 t3 (fun i q => by omega)
                  have q3 := H2.bqR q2 t3 (fun i q => by omega)
                  clear H2 q2 hv3 t3 hHeld
                  refine hKC.out _ _ ?_ (fun hHeld => ?_)
                  · exact ⟨H3.tc, bc_of q3⟩
                  clear hKC KC
                  refine reg_take (i := 18) (v := ?_) rfl rfl (by kernel_rfl) (by kernel_rfl) (by kernel_rfl) (fun _ _ _ h => h) (by assumption) (by rfl) ?_ ?_
                  rotate_left 1
                  · (intro w hSw; (try dsimp only at hSw); go_simp; try with_reducible rfl)
                  try simp only [List.setIfInBounds_toArray, List.set_cons_zero, List.set_cons_succ]
                  refine reg_take (i := 19) (v := ?_) rfl rfl (by kernel_rfl) (by kernel_rfl) (by kernel_rfl) (fun _ _ _ h => h) (by assumption) (by rfl) ?_ ?_
                  rotate_left 1
                  · (intro w hSw; (try dsimp only at hSw); go_simp; try with_reducible rfl)
                  try simp only [List.setIfInBounds_toArray, List.set_cons_zero, List.set_cons_succ]
                  refine wpAnyH_done (by kernel_rfl) ?_ _
                  clear hHeld
                  go_wp2_with fail
                  go_meet
                  case rel => exact ⟨by simp, ⟨_, L, R, H3, O.grow _ _⟩, q3⟩
              by_cases k2 : z 0 = 2
              ·
                as_aux_lemma =>
                  go_upto_region 13 with fail
                  have b0 : Below W1.heap.size W1 W1.drew := below_drewN (Below.refl _ W1) 1
                  have H1 := H0.below b0
                  have q1 := bq_below hq b0
                  clear b0 H0 hq
                  refine wp_region_held_drew (S := fun W => TC t L.s L.v R.d R.q W ∧ BC G z W) (by kernel_rfl) ⟨H1.tc, bc_of q1⟩ (fun hHeld => ?_)
                  refine reg_take (i := 0) (v := ?_) rfl rfl (by kernel_rfl) (by kernel_rfl) (by kernel_rfl) (fun _ _ _ h => h) (by assumption) (by rfl) ?_ ?_
                  rotate_left 1
                  · (intro w hSw; (try dsimp only at hSw); go_simp; try with_reducible rfl)
                  try simp only [List.setIfInBounds_toArray, List.set_cons_zero, List.set_cons_succ]
                  refine reg_take (i := 1) (v := ?_) rfl rfl (by kernel_rfl) (by kernel_rfl) (by kernel_rfl) (fun _ _ _ h => h) (by assumption) (by rfl) ?_ ?_
                  rotate_left 1
                  · (intro w hSw; (try dsimp only at hSw); go_simp; try with_reducible rfl)
                  try simp only [List.setIfInBounds_toArray, List.set_cons_zero, List.set_cons_succ]
                  refine reg_take (i := 2) (v := ?_) rfl rfl (by kernel_rfl) (by kernel_rfl) (by kernel_rfl) (fun _ _ _ h => h) (by assumption) (by rfl) ?_ ?_
                  rotate_left 1
                  · (intro w hSw; (try dsimp only at hSw); go_simp; try with_reducible rfl)
                  try simp only [List.setIfInBounds_toArray, List.set_cons_zero, List.set_cons_succ]
                  refine reg_take (i := 3) (v := ?_) rfl rfl (by kernel_rfl) (by kernel_rfl) (by kernel_rfl) (fun _ _ _ h => h) (by assumption) (by rfl) ?_ ?_
                  rotate_left 1
                  · (intro w hSw; (try dsimp only at hSw); go_simp; try with_reducible rfl)
                  try simp only [List.setIfInBounds_toArray, List.set_cons_zero, List.set_cons_succ]
                  refine reg_take (i := 4) (v := ?_) rfl rfl (by kernel_rfl) (by kernel_rfl) (by kernel_rfl) (fun _ _ _ h => h) (by assumption) (by rfl) ?_ ?_
                  rotate_left 1
                  · (intro w hSw; (try dsimp only at hSw); go_simp; try with_reducible rfl)
                  try simp only [List.setIfInBounds_toArray, List.set_cons_zero, List.set_cons_succ]
                  refine reg_take (i := 5) (v := ?_) rfl rfl (by kernel_rfl) (by kernel_rfl) (by kernel_rfl) (fun _ _ _ h => h) (by assumption) (by rfl) ?_ ?_
                  rotate_left 1
                  · (intro w hSw; (try dsimp only at hSw); go_simp; try with_reducible rfl)
                  try simp only [List.setIfInBounds_toArray, List.set_cons_zero, List.set_cons_succ]
                  refine reg_take (i := 6) (v := ?_) rfl rfl (by kernel_rfl) (by kernel_rfl) (by kernel_rfl) (fun _ _ _ h => h) (by assumption) (by rfl) ?_ ?_
                  rotate_left 1
                  · (intro w hSw; (try dsimp only at hSw); go_simp; try with_reducible rfl)
                  try simp only [List.setIfInBounds_toArray, List.set_cons_zero, List.set_cons_succ]
                  refine reg_take (i := 7) (v := ?_) rfl rfl (by kernel_rfl) (by kernel_rfl) (by kernel_rfl) (fun _ _ _ h => h) (by assumption) (by rfl) ?_ ?_
                  rotate_left 1
                  · (intro w hSw; (try dsimp only at hSw); go_simp; try with_reducible rfl)
                  try simp only [List.setIfInBounds_toArray, List.set_cons_zero, List.set_cons_succ]
                  refine reg_step (i := 8) (by kernel_rfl) rfl (by rfl) (fun KC hKC => ?_)
                  go_simp
                  refine (shrink_L H1 O (z 1) (z 2) hn).mono ?_; rintro e w2 ⟨v2, rfl, pg2, hv2, t2⟩
                  have H2 := H1.left hv2 t2 (fun i q => by omega)
                  have q2 := H1.bqL q1 t2 (fun i q => by omega)
                  have hs2 : R.r < W1.drew.heap.size ∧ R.m < W1.drew.heap.size := by have := H1.p.r.lts; omega
                  generalize W1.drew.heap.size = B1 at *
                  clear H1 q1 hv2 t2 hHeld
                  refine hKC.out _ _ ?_ (fun hHeld => ?_)
                  · exact ⟨H2.tc, bc_of q2⟩
                  clear hKC KC
                  refine reg_take (i := 9) (v := ?_) rfl rfl (by kernel_rfl) (by kernel_rfl) (by kernel_rfl) (fun _ _ _ h => h) (by assumption) (by rfl) ?_ ?_
                  rotate_left 1
                  · (intro w hSw; (try dsimp only at hSw); go_simp; try with_reducible rfl)
                  try simp only [List.setIfInBounds_toArray, List.set_cons_zero, List.set_cons_succ]
                  refine reg_take (i := 10) (v := ?_) rfl rfl (by kernel_rfl) (by kernel_rfl) (by kernel_rfl) (fun _ _ _ h => h) (by assumption) (by rfl) ?_ ?_
                  rotate_left 1
                  · (intro w hSw; (try dsimp only at hSw); go_simp; try with_reducible rfl)
                  try simp only [List.setIfInBounds_toArray, List.set_cons_zero, List.set_cons_succ]
                  refine reg_take (i := 11) (v := ?_) rfl rfl (by kernel_rfl) (by kernel_rfl) (by kernel_rfl) (fun _ _ _ h => h) (by assumption) (by rfl) ?_ ?_
                  rotate_left 1
                  · (intro w hSw; (try dsimp only at hSw); go_simp; try with_reducible rfl)
                  try simp only [List.setIfInBounds_toArray, List.set_cons_zero, List.set_cons_succ]
                  refine reg_take (i := 12) (v := ?_) rfl rfl (by kernel_rfl) (by kernel_rfl) (by kernel_rfl) (fun _ _ _ h => h) (by assumption) (by rfl) ?_ ?_
                  rotate_left 1
                  · (intro w hSw; (try dsimp only at hSw); go_simp; try with_reducible rfl)
                  try simp only [List.setIfInBounds_toArray, List.set_cons_zero, List.set_cons_succ]
                  refine reg_take (i := 13) (v := ?_) rfl rfl (by kernel_rfl) (by kernel_rfl) (by kernel_rfl) (fun _ _ _ h => h) (by assumption) (by rfl) ?_ ?_
                  rotate_left 1
                  · (intro w hSw; (try dsimp only at hSw); go_simp; try with_reducible rfl)
                  try simp only [List.setIfInBounds_toArray, List.set_cons_zero, List.set_cons_succ]
                  refine wpAnyH_done (by kernel_rfl) ?_ _
                  clear hHeld
                  go_upto_region 14 with fail
                  have b0 : Below w2.heap.size w2 w2.drew := below_drewN (Below.refl _ w2) 1
                  have H3 := H2.below b0
                  have q3 := bq_below q2 b0
                  have pg3 := pg2.turn (Turn.of_below b0 (fun _ => False)) (fun i q => q.elim)
                  clear b0 H2 q2 pg2
                  refine wp_region_held_drew (S := fun W => TC t L.s L.v R.d R.q W ∧ BC G z W) (by kernel_rfl) ⟨H3.tc, bc_of q3⟩ (fun hHeld => ?_)
                  refine reg_take (i := 0) (v := ?_) rfl rfl (by kernel_rfl) (by kernel_rfl) (by kernel_rfl) (fun _ _ _ h => h) (by assumption) (by rfl) ?_ ?_
                  rotate_left 1
                  · (intro w hSw; (try dsimp only at hSw); go_simp; try with_reducible rfl)
                  try simp only [List.setIfInBounds_toArray, List.set_cons_zero, List.set_cons_succ]
                  refine reg_take (i := 1) (v := ?_) rfl rfl (by kernel_rfl) (by kernel_rfl) (by kernel_rfl) (fun _ _ _ h => h) (by assumption) (by rfl) ?_ ?_
                  rotate_left 1
                  · (intro w hSw; (try dsimp only at hSw); go_simp; try with_reducible rfl)
                  try simp only [List.setIfInBounds_toArray, List.set_cons_zero, List.set_cons_succ]
                  refine reg_take (i := 2) (v := ?_) rfl rfl (by kernel_rfl) (by kernel_rfl) (by kernel_rfl) (fun _ _ _ h => h) (by assumption) (by rfl) ?_ ?_
                  rotate_left 1
                  · (intro w hSw; (try dsimp only at hSw); go_simp; try with_reducible rfl)
                  try simp only [List.setIfInBounds_toArray, List.set_cons_zero, List.set_cons_succ]
                  refine reg_take (i := 3) (v := ?_) rfl rfl (by kernel_rfl) (by kernel_rfl) (by kernel_rfl) (fun _ _ _ h => h) (by assumption) (by rfl) ?_ ?_
                  rotate_left 1
                  · (intro w hSw; (try dsimp only at hSw); go_simp; try with_reducible rfl)
                  try simp only [List.setIfInBounds_toArray, List.set_cons_zero, List.set_cons_succ]
                  refine reg_take (i := 4) (v := ?_) rfl rfl (by kernel_rfl) (by kernel_rfl) (by kernel_rfl) (fun _ _ _ h => h) (by assumption) (by rfl) ?_ ?_
                  rotate_left 1
                  · (intro w hSw; (try dsimp only at hSw); go_simp; try with_reducible rfl)
                  try simp only [List.setIfInBounds_toArray, List.set_cons_zero, List.set_cons_succ]
                  refine reg_take (i := 5) (v := ?_) rfl rfl (by kernel_rfl) (by kernel_rfl) (by kernel_rfl) (fun _ _ _ h => h) (by assumption) (by rfl) ?_ ?_
                  rotate_left 1
                  · (intro w hSw; (try dsimp only at hSw); go_simp; try with_reducible rfl)
                  try simp only [List.setIfInBounds_toArray, List.set_cons_zero, List.set_cons_succ]
                  refine reg_take (i := 6) (v := ?_) rfl rfl (by kernel_rfl) (by kernel_rfl) (by kernel_rfl) (fun _ _ _ h => h) (by assumption) (by rfl) ?_ ?_
                  rotate_left 1
                  · (intro w hSw; (try dsimp only at hSw); go_simp; try with_reducible rfl)
                  try simp only [List.setIfInBounds_toArray, List.set_cons_zero, List.set_cons_succ]
                  refine reg_take (i := 7) (v := ?_) rfl rfl (by kernel_rfl) (by kernel_rfl) (by kernel_rfl) (fun _ _ _ h => h) (by assumption) (by rfl) ?_ ?_
                  rotate_left 1
                  · (intro w hSw; (try dsimp only at hSw); go_simp; try with_reducible rfl)
                  try simp only [List.setIfInBounds_toArray, List.set_cons_zero, List.set_cons_succ]
                  refine reg_step (i := 8) (by kernel_rfl) rfl (by rfl) (fun KC hKC => ?_)
                  go_simp
                  refine (shrink_R H3 O (z 1) (z 2) hn).mono ?_; rintro e w4 ⟨v4, rfl, pg4, hv4, t4⟩
                  have H4 := H3.right hv4 t4 (fun i q => by omega)
                  have q4 := H3.bqR q3 t4 (fun i q => by omega)
                  have pg34 := pg3.turn t4 (fun i q => by omega)
                  clear H3 q3 hv4 t4 hHeld pg3
                  refine hKC.out _ _ ?_ (fun hHeld => ?_)
                  · exact ⟨H4.tc, bc_of q4⟩
                  clear hKC KC
                  refine reg_take (i := 9) (v := ?_) rfl rfl (by kernel_rfl) (by kernel_rfl) (by kernel_rfl) (fun _ _ _ h => h) (by assumption) (by rfl) ?_ ?_
                  rotate_left 1
                  · (intro w hSw; (try dsimp only at hSw); go_simp; try with_reducible rfl)
                  try simp only [List.setIfInBounds_toArray, List.set_cons_zero, List.set_cons_succ]
                  refine reg_take (i := 10) (v := ?_) rfl rfl (by kernel_rfl) (by kernel_rfl) (by kernel_rfl) (fun _ _ _ h => h) (by assumption) (by rfl) ?_ ?_
                  rotate_left 1
                  · (intro w hSw; (try dsimp only at hSw); go_simp; try with_reducible rfl)
                  try simp only [List.setIfInBounds_toArray, List.set_cons_zero, List.set_cons_succ]
                  refine reg_take (i := 11) (v := ?_) rfl rfl (by kernel_rfl) (by kernel_rfl) (by kernel_rfl) (fun _ _ _ h => h) (by assumption) (by rfl) ?_ ?_
                  rotate_left 1
                  · (intro w hSw; (try dsimp only at hSw); go_simp; try with_reducible rfl)
                  try simp only [List.setIfInBounds_toArray, List.set_cons_zero, List.set_cons_succ]
                  refine reg_take (i := 12) (v := ?_) rfl rfl (by kernel_rfl) (by kernel_rfl) (by kernel_rfl) (fun _ _ _ h => h) (by assumption) (by rfl) ?_ ?_
                  rotate_left 1
                  · (intro w hSw; (try dsimp only at hSw); go_simp; try with_reducible rfl)
                  try simp only [List.setIfInBounds_toArray, List.set_cons_zero, List.set_cons_succ]
                  refine reg_take (i := 13) (v := ?_) rfl rfl (by kernel_rfl) (by kernel_rfl) (by kernel_rfl) (fun _ _ _ h => h) (by assumption) (by rfl) ?_ ?_
                  rotate_left 1
                  · (intro w hSw; (try dsimp only at hSw); go_simp; try with_reducible rfl)
                  try simp only [List.setIfInBounds_toArray, List.set_cons_zero, List.set_cons_succ]
                  refine wpAnyH_done (by kernel_rfl) ?_ _
                  clear hHeld
                  obtain ⟨x2, cp2, rfl, nr2, _⟩ := pg34
                  obtain ⟨x4, cp4, rfl, nr4, _⟩ := pg4
                  go_wp2_with fail
                  refine (sameI_yes x2 x4 cp2 cp4 (swL st (z 1) (z 2)) w4 (swL_len st O _ _) nr2 nr4).mono ?_; rintro e w5 ⟨rfl, q5, rfl⟩
                  have b5 : Below w4.heap.size w4 (w4.drewN q5) := below_drewN (Below.refl _ w4) q5
                  have H5 := H4.below b5
                  have q5' := bq_below q4 b5
                  clear nr2 nr4 H4 q4 b5
                  generalize w4.drewN q5 = W5 at *
                  go_wp2_with fail
                  go_meet
                  case rel => exact ⟨by simp, ⟨_, L, R, H5, O.shrink _ _⟩, q5'⟩
              by_cases k3 : z 0 = 3
              ·
                as_aux_lemma =>
                  go_upto_region 17 with fail
                  have b0 : Below W1.heap.size W1 W1.drew := below_drewN (Below.refl _ W1) 1
                  have H1 := H0.below b0
                  have q1 := bq_below hq b0
                  clear b0 H0 hq
                  refine wp_region_held_drew (S := fun W => TC t L.s L.v R.d R.q W ∧ BC G z W) (by kernel_rfl) ⟨H1.tc, bc_of q1⟩ (fun hHeld => ?_)
                  generalize W1.drew = W2 at *
                  refine reg_take (i := 0) (v := ?_) rfl rfl (by kernel_rfl) (by kernel_rfl) (by kernel_rfl) (fun _ _ _ h => h) (by assumption) (by rfl) ?_ ?_
                  rotate_left 1
                  · (intro w hSw; (try dsimp only at hSw); go_simp; try with_reducible rfl)
                  try simp only [List.setIfInBounds_toArray, List.set_cons_zero, List.set_cons_succ]
                  refine reg_take (i := 1) (v := ?_) rfl rfl (by kernel_rfl) (by kernel_rfl) (by kernel_rfl) (fun _ _ _ h => h) (by assumption) (by rfl) ?_ ?_
                  rotate_left 1
                  · (intro w hSw; (try dsimp only at hSw); go_simp; try with_reducible rfl)
                  try simp only [List.setIfInBounds_toArray, List.set_cons_zero, List.set_cons_succ]
                  refine reg_take (i := 2) (v := ?_) rfl rfl (by kernel_rfl) (by kernel_rfl) (by kernel_rfl) (fun _ _ _ h => h) (by assumption) (by rfl) ?_ ?_
                  rotate_left 1
                  · (intro w hSw; (try dsimp only at hSw); go_simp; try with_reducible rfl)
                  try simp only [List.setIfInBounds_toArray, List.set_cons_zero, List.set_cons_succ]
                  refine reg_take (i := 3) (v := ?_) rfl rfl (by kernel_rfl) (by kernel_rfl) (by kernel_rfl) (fun _ _ _ h => h) (by assumption) (by rfl) ?_ ?_
                  rotate_left 1
                  · (intro w hSw; (try dsimp only at hSw); go_simp; try with_reducible rfl)
                  try simp only [List.setIfInBounds_toArray, List.set_cons_zero, List.set_cons_succ]
                  refine reg_take (i := 4) (v := ?_) rfl rfl (by kernel_rfl) (by kernel_rfl) (by kernel_rfl) (fun _ _ _ h => h) (by assumption) (by rfl) ?_ ?_
                  rotate_left 1
                  · (intro w hSw; (try dsimp only at hSw); go_simp; try with_reducible rfl)
                  try simp only [List.setIfInBounds_toArray, List.set_cons_zero, List.set_cons_succ]
                  refine reg_take (i := 5) (v := ?_) rfl rfl (by kernel_rfl) (by kernel_rfl) (by kernel_rfl) (fun _ _ _ h => h) (by assumption) (by rfl) ?_ ?_
                  rotate_left 1
                  · (intro w hSw; (try dsimp only at hSw); go_simp; try with_reducible rfl)
                  try simp only [List.setIfInBounds_toArray, List.set_cons_zero, List.set_cons_succ]
                  refine reg_take (i := 6) (v := ?_) rfl rfl (by kernel_rfl) (by kernel_rfl) (by kernel_rfl) (fun _ _ _ h => h) (by assumption) (by rfl) ?_ ?_
                  rotate_left 1
                  · (intro w hSw; (try dsimp only at hSw); go_simp; try with_reducible rfl)
                  try simp only [List.setIfInBounds_toArray, List.set_cons_zero, List.set_cons_succ]
                  refine reg_take (i := 7) (v := ?_) rfl rfl (by kernel_rfl) (by kernel_rfl) (by kernel_rfl) (fun _ _ _ h => h) (by assumption) (by rfl) ?_ ?_
                  rotate_left 1
                  · (intro w hSw; (try dsimp only at hSw); go_simp; try with_reducible rfl)
                  try simp only [List.setIfInBounds_toArray, List.set_cons_zero, List.set_cons_succ]
                  refine reg_take (i := 8) (v := ?_) rfl rfl (by kernel_rfl) (by kernel_rfl) (by kernel_rfl) (fun _ _ _ h => h) (by assumption) (by rfl) ?_ ?_
                  rotate_left 1
                  · (intro w hSw; (try dsimp only at hSw); go_simp; try with_reducible rfl)
                  try simp only [List.setIfInBounds_toArray, List.set_cons_zero, List.set_cons_succ]
                  refine reg_step (i := 9) (by kernel_rfl) rfl (by rfl) (fun KC hKC => ?_)
                  go_simp
                  have bA : Below W2.heap.size W2 (W2.alloc (Obj.cells #[.int .i64 (z 2), .int .i64 (IntKind.i64.wrap (z 2 + 1)), .int .i64 (-1), .int .i64 64] 3)) := (Below.refl _ _).alloc (Nat.le_refl _) _
                  have nr : NR (W2.alloc (Obj.cells #[.int .i64 (z 2), .int .i64 (IntKind.i64.wrap (z 2 + 1)), .int .i64 (-1), .int .i64 64] 3)) (some ⟨W2.heap.size, 0, none⟩) [z 2, IntKind.i64.wrap (z 2 + 1), -1, 64] := nr_made W2 [z 2, IntKind.i64.wrap (z 2 + 1), -1, 64] W2.heap.size rfl 3
                  have H2 := H1.below bA
                  have q2 := bq_below q1 bA
                  clear H1 q1 bA hHeld
                  generalize W2.alloc (Obj.cells #[.int .i64 (z 2), .int .i64 (IntKind.i64.wrap (z 2 + 1)), .int .i64 (-1), .int .i64 64] 3) = W3 at *
                  generalize W2.heap.size = D at *
                  refine hKC.out _ _ ?_ (fun hHeld => ?_)
                  · exact ⟨H2.tc, bc_of q2⟩
                  clear hKC KC
                  refine reg_step (i := 10) (by kernel_rfl) rfl (by rfl) (fun KC hKC => ?_)
                  go_simp
                  refine (sback_any L st (some ⟨D, 0, none⟩) 4 [z 2, IntKind.i64.wrap (z 2 + 1), -1, 64] (by simp) _ H2.p.v nr).mono ?_; rintro e w4 ⟨rfl, hv4, t4⟩
                  have H4 := H2.left hv4 t4 (fun i q => by omega)
                  have q4 := H2.bqL q2 t4 (fun i q => by omega)
                  clear H2 q2 hv4 t4 hHeld nr
                  refine hKC.out _ _ ?_ (fun hHeld => ?_)
                  · exact ⟨H4.tc, bc_of q4⟩
                  clear hKC KC
                  refine wpAnyH_done (by kernel_rfl) ?_ _
                  clear hHeld
                  go_upto_region 18 with fail
                  have b0 : Below w4.heap.size w4 w4.drew := below_drewN (Below.refl _ w4) 1
                  have H5 := H4.below b0
                  have q5 := bq_below q4 b0
                  clear b0 H4 q4
                  refine wp_region_held_drew (S := fun W => TC t L.s L.v R.d R.q W ∧ BC G z W) (by kernel_rfl) ⟨H5.tc, bc_of q5⟩ (fun hHeld => ?_)
                  generalize w4.drew = W5 at *
                  refine reg_take (i := 0) (v := ?_) rfl rfl (by kernel_rfl) (by kernel_rfl) (by kernel_rfl) (fun _ _ _ h => h) (by assumption) (by rfl) ?_ ?_
                  rotate_left 1
                  · (intro w hSw; (try dsimp only at hSw); go_simp; try with_reducible rfl)
                  try simp only [List.setIfInBounds_toArray, List.set_cons_zero, List.set_cons_succ]
                  refine reg_take (i := 1) (v := ?_) rfl rfl (by kernel_rfl) (by kernel_rfl) (by kernel_rfl) (fun _ _ _ h => h) (by assumption) (by rfl) ?_ ?_
                  rotate_left 1
                  · (intro w hSw; (try dsimp only at hSw); go_simp; try with_reducible rfl)
                  try simp only [List.setIfInBounds_toArray, List.set_cons_zero, List.set_cons_succ]
                  refine reg_take (i := 2) (v := ?_) rfl rfl (by kernel_rfl) (by kernel_rfl) (by kernel_rfl) (fun _ _ _ h => h) (by assumption) (by rfl) ?_ ?_
                  rotate_left 1
                  · (intro w hSw; (try dsimp only at hSw); go_simp; try with_reducible rfl)
                  try simp only [List.setIfInBounds_toArray, List.set_cons_zero, List.set_cons_succ]
                  refine reg_take (i := 3) (v := ?_) rfl rfl (by kernel_rfl) (by kernel_rfl) (by kernel_rfl) (fun _ _ _ h => h) (by assumption) (by rfl) ?_ ?_
                  rotate_left 1
                  · (intro w hSw; (try dsimp only at hSw); go_simp; try with_reducible rfl)
                  try simp only [List.setIfInBounds_toArray, List.set_cons_zero, List.set_cons_succ]
                  refine reg_take (i := 4) (v := ?_) rfl rfl (by kernel_rfl) (by kernel_rfl) (by kernel_rfl) (fun _ _ _ h => h) (by assumption) (by rfl) ?_ ?_
                  rotate_left 1
                  · (intro w hSw; (try dsimp only at hSw); go_simp; try with_reducible rfl)
                  try simp only [List.setIfInBounds_toArray, List.set_cons_zero, List.set_cons_succ]
                  refine reg_take (i := 5) (v := ?_) rfl rfl (by kernel_rfl) (by kernel_rfl) (by kernel_rfl) (fun _ _ _ h => h) (by assumption) (by rfl) ?_ ?_
                  rotate_left 1
                  · (intro w hSw; (try dsimp only at hSw); go_simp; try with_reducible rfl)
                  try simp only [List.setIfInBounds_toArray, List.set_cons_zero, List.set_cons_succ]
                  refine reg_take (i := 6) (v := ?_) rfl rfl (by kernel_rfl) (by kernel_rfl) (by kernel_rfl) (fun _ _ _ h => h) (by assumption) (by rfl) ?_ ?_
                  rotate_left 1
                  · (intro w hSw; (try dsimp only at hSw); go_simp; try with_reducible rfl)
                  try simp only [List.setIfInBounds_toArray, List.set_cons_zero, List.set_cons_succ]
                  refine reg_take (i := 7) (v := ?_) rfl rfl (by kernel_rfl) (by kernel_rfl) (by kernel_rfl) (fun _ _ _ h => h) (by assumption) (by rfl) ?_ ?_
                  rotate_left 1
                  · (intro w hSw; (try dsimp only at hSw); go_simp; try with_reducible rfl)
                  try simp only [List.setIfInBounds_toArray, List.set_cons_zero, List.set_cons_succ]
                  refine reg_take (i := 8) (v := ?_) rfl rfl (by kernel_rfl) (by kernel_rfl) (by kernel_rfl) (fun _ _ _ h => h) (by assumption) (by rfl) ?_ ?_
                  rotate_left 1
                  · (intro w hSw; (try dsimp only at hSw); go_simp; try with_reducible rfl)
                  try simp only [List.setIfInBounds_toArray, List.set_cons_zero, List.set_cons_succ]
                  refine reg_step (i := 9) (by kernel_rfl) rfl (by rfl) (fun KC hKC => ?_)
                  go_simp
                  have bA : Below W5.heap.size W5 (W5.alloc (Obj.cells #[.int .i64 (z 2), .int .i64 (IntKind.i64.wrap (z 2 + 1)), .int .i64 (-1), .int .i64 64] 3)) := (Below.refl _ _).alloc (Nat.le_refl _) _
                  have nr : NR (W5.alloc (Obj.cells #[.int .i64 (z 2), .int .i64 (IntKind.i64.wrap (z 2 + 1)), .int .i64 (-1), .int .i64 64] 3)) (some ⟨W5.heap.size, 0, none⟩) [z 2, IntKind.i64.wrap (z 2 + 1), -1, 64] := nr_made W5 [z 2, IntKind.i64.wrap (z 2 + 1), -1, 64] W5.heap.size rfl 3
                  have H6 := H5.below bA
                  have q6 := bq_below q5 bA
                  clear H5 q5 bA hHeld
                  generalize W5.alloc (Obj.cells #[.int .i64 (z 2), .int .i64 (IntKind.i64.wrap (z 2 + 1)), .int .i64 (-1), .int .i64 64] 3) = W6 at *
                  generalize W5.heap.size = D2 at *
                  refine hKC.out _ _ ?_ (fun hHeld => ?_)
                  · exact ⟨H6.tc, bc_of q6⟩
                  clear hKC KC
                  refine reg_step (i := 10) (by kernel_rfl) rfl (by rfl) (fun KC hKC => ?_)
                  go_simp
                  refine (rback_any R st (some ⟨D2, 0, none⟩) 4 [z 2, IntKind.i64.wrap (z 2 + 1), -1, 64] (by simp) _ H6.p.r nr).mono ?_; rintro e w7 ⟨rfl, hv7, t7⟩
                  have H7 := H6.right hv7 t7 (fun i q => by omega)
                  have q7 := H6.bqR q6 t7 (fun i q => by omega)
                  clear H6 q6 hv7 t7 hHeld nr
                  refine hKC.out _ _ ?_ (fun hHeld => ?_)
                  · exact ⟨H7.tc, bc_of q7⟩
                  clear hKC KC
                  refine wpAnyH_done (by kernel_rfl) ?_ _
                  clear hHeld
                  go_wp2_with fail
                  go_meet
                  case rel => exact ⟨rfl, ⟨_, L, R, H7, O.back _⟩, q7⟩
              by_cases k4 : z 0 = 4
              ·
                as_aux_lemma =>
                  go_wp2_with fail
                  refine (dput_any w t L R st _ H0 O.v).mono ?_; rintro e w3 ⟨rfl, L', R', H3, T3⟩
                  have q3 : BQ G z w3 := blk_of_turn T3 hq (by
                    have h1 := H0.p.far hq (by decide)
                    have h2 : G ≠ t := fun e => by
                      have h3 := H0.tw
                      rw [← e] at h3
                      unfold TwoAt at h3
                      rw [hq] at h3
                      injection h3 with h3
                      injection h3 with _ h3
                      cases h3
                    omega)
                  clear H0 hq T3
                  go_wp2_with fail
                  go_meet
                  case rel => exact ⟨rfl, ⟨_, L', R', H3, O.all⟩, q3⟩
              go_wp2_with fail
              go_meet
              case rel => exact ⟨rfl, ⟨st, L, R, H0, O⟩, hq⟩
            case rest =>
              clear H0 hq O
              obtain ⟨rfl, ⟨st, L, R, H0, O⟩, hq⟩ := hcut
              as_aux_lemma =>
                clear hq
                go_wp2_with fail
                refine (dsame_any H0 O.v).mono ?_; rintro e w4 ⟨rfl, t4⟩
                have H4 := H0.below t4
                clear H0 t4
                go_wp2_with fail
                exact ⟨⟨rfl, j + 1, by omega, by go_num, _, L, R, H4, O⟩, by simp [intOf]; omega⟩
          · go_wp2_with fail
            go_meet
            case rel => exact ⟨rfl, st, L, R, H, O⟩
        · have l1 : ¬ (j : Int) < (len1 : Int) := by omega
          go_wp2_with fail
          go_meet
          case rel => exact ⟨rfl, st, L, R, H, O⟩
  case rest =>
    clear I0 w1
    obtain ⟨rfl, st, L, R, H, O⟩ := hcut
    as_aux_lemma =>
      go_wp2_with fail
      refine (dput_any w t L R st _ H O.v).mono ?_; rintro e w3 ⟨rfl, L', R', H3, _⟩
      go_wp2_with fail
      refine (dstores_any H3 rfl).mono ?_; rintro e w4 ⟨rfl, t4⟩
      have hb := (H3.below t4).p.b
      have hM2 := hM.below (Nat.le_refl _) hb
      clear H3 H t4
      go_wp2_with fail
      refine (spaceRuns_any _ hM2).mono ?_; rintro e w5 ⟨rfl, t5⟩
      go_wp2_with fail
      go_ret
      exact ⟨rfl, hb.trans (t5.mono hb.size)⟩
end Go.Proofs.YtfcgkjbifnhjjaaGreatDoor.St
