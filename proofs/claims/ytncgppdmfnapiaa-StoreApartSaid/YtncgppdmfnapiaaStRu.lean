/- The walk of cloisterlaw8.StoreRuns. No condition but those written in the statement. -/
import Derived.Test.YtncgppdmfnapiaaStL
import Derived.Test.YtncgppdmfnapiaaKeyW1
namespace Go.Proofs.Ytncgppdmfnapiaa.St
open Go.RowKit
set_option linter.unusedVariables false

theorem run_eql_op {xs : Array Value} {ρ : Operand → Value} {t : TypeId} {x y : Operand} {dst : Option Tmp} {ty : TypeId} {pos : String} {after : Array Edge} {guard : Option (Nat × Bool)} {w : World} (hx : ρ x = .agg xs) (hy : ρ y = .agg xs) (hm : Try.prog.eqGuardType Try.prog.depth t = false) (h : (Op.equalIn 10000 t (.agg xs) (.agg xs)).run Try.prog w = .ok true w) :
    (execOp ρ { dst, op := .binOp .eql t x y t, type := ty, pos, after, guard }).run Try.prog w = .ok (.value (.bool true)) w := by
  simp [execOp, hx, hy, run_eql_struct, h, run_eqGuard_agg w .eql t x y xs xs hm]
theorem turn_cells_two {S : Nat → Prop} {W W' : World} {K : Nat} {A C : Int} (h : W.cell? ⟨K, 0, none⟩ = some (.int .i64 A) ∧ W.cell? ⟨K, 1, none⟩ = some (.int .i64 C)) (hT : Turn S W W') (hK : ¬ S K) : W'.cell? ⟨K, 0, none⟩ = some (.int .i64 A) ∧ W'.cell? ⟨K, 1, none⟩ = some (.int .i64 C) := by
  have hb := hT.block K (cell_block_lt h.1) hK
  have e : ∀ i, W'.cell? ⟨K, i, none⟩ = W.cell? ⟨K, i, none⟩ := fun i => by simp only [World.cell?, hb]
  rw [e, e]; exact h
theorem storePut0 (base : Nat → Val) (x : Val) : storePut base 1 0 x = updB base 0 x := by
  unfold storePut
  rw [show placeI 1 0 = 0 by decide]; rfl
def st4R : VSt := (((VSt.fresh (updB (fun _ => Val.zero) 0 (numV 5))).saw 1 0).put 1 0 (numV 6)).saw 1 0
theorem plF_one : plF (fun k n => decide (k = 1 ∧ n = 0)) = [0] := by decide +kernel
theorem run_rd : rdP st4R = [0] := by
  rw [← plF_one]
  refine plF_congr fun k n _ => ?_
  have e : st4R.rd = updK (updK (fun _ _ => none) 1 0 (.bool true)) 1 0 (.bool true) := rfl
  rw [e]
  unfold updK
  by_cases h : k = 1 ∧ n = 0
  · simp [h]
  · simp [h]
theorem run_wr : wrL st4R = [((1, 0), numV 6)] := by
  have e : st4R.wr = updV (fun _ _ => none) 1 0 (numV 6) := rfl
  have h : wrP st4R = [0] := by
    rw [← plF_one]
    refine plF_congr fun k n _ => ?_
    rw [e]
    unfold updV
    by_cases h : k = 1 ∧ n = 0
    · simp [h]
    · simp [h]
  unfold wrL
  rw [h, e]
  have hk : keyP 0 = (1, 0) := by decide
  simp only [List.map_cons, List.map_nil, hk]
  rfl
abbrev K2 (K : Nat) (A C : Int) (W : World) : Prop := W.cell? ⟨K, 0, none⟩ = some (.int .i64 A) ∧ W.cell? ⟨K, 1, none⟩ = some (.int .i64 C)
abbrev SR (K a b : Nat) (W : World) : Prop := K2 K 1 0 W ∧ blk W a = some (.cells (numV 5).cells 44 (0, 0)) ∧ blk W b = some (.cells (numV 6).cells 44 (0, 0))
theorem sr_below {K a b : Nat} {W W' : World} (h : SR K a b W) (hb : Below W.heap.size W W') : SR K a b W' := ⟨cells_two h.1 hb, (hb.block a (lt_of_heap h.2.1)).trans h.2.1, (hb.block b (lt_of_heap h.2.2)).trans h.2.2⟩
theorem wcells_all (k m : Int) (x : Val) : (wcells k m x).extract (0 * 19) (0 * 19 + 19) = wcells k m x := by
  apply Array.toList_inj.1
  simp [wcells]
theorem wr_one (W : World) (g : Nat) (k m : Int) (x : Val) (h : blk W g = some (.cells (wcells k m x) 53 (0, 0))) : WR W (some ⟨g, 0, none⟩) [((k, m), x)] := fun i hi => by
  obtain rfl : i = 0 := by simp at hi; omega
  exact ⟨g, _, rfl, h, wcells_all k m x⟩
theorem sk_zero : sk [0] 0 = (1, 0) := by decide
attribute [local go_sem] blk_alloc_at blk_alloc_past blk_drew blk_drewN blk_setB_same blk_setB_other blk_setRow_other setRow_alloc_at setRow_alloc_past setRow_drewN setRow_drew setB_size setB_cell setB_frozen setB_alloc_past setB_drewN setB_drew run_loadV loadOr_cells run_storeV storeOr_cells cells_size ones_cells
attribute [local go_sem ↓] execOp_loadV execOp_storeV
attribute [local irreducible] Int.lt Int.le
set_option maxRecDepth 100000 in
set_option maxHeartbeats 4000000 in
theorem sruns_any (w : World) : Calls Try.prog 8 #[] w fun e w' => e = .returned (.bool true) ∧ Below w.heap.size w w' := by
  have hz := zero_val
  go_enter Try.func8, Try.ntmps8
  go_wp2_with fail
  refine (new_any _).mono ?_; rintro e w1 ⟨s, l, rfl, hS, t1, gs, gl⟩
  go_upto_region 3 with fail
  have bA : Below w1.heap.size w1 (w1.alloc (.cells #[.int .i64 1, .int .i64 0] 23)) := (Below.refl _ _).alloc (Nat.le_refl _) _
  have hK : K2 w1.heap.size 1 0 (w1.alloc (.cells #[.int .i64 1, .int .i64 0] 23)) := ⟨cell_of_row _ _ 0 _ _ _ (heap_alloc_new _ _), cell_of_row _ _ 1 _ _ _ (heap_alloc_new _ _)⟩
  have hsl : s ≠ l := by
    obtain ⟨_, _, q1⟩ := hS.cs
    obtain ⟨_, q2, _⟩ := hS.cl
    intro q; rw [q, q2] at q1; injection q1 with q1; injection q1 with _ q1; cases q1
  have hlK : w1.heap.size ≠ l := by obtain ⟨_, q2, _⟩ := hS.cl; have := lt_of_heap q2; omega
  have hS2 := hS.keep (Turn.of_below bA (fun _ => False)) id id
  have t2 := t1.trans (bA.mono t1.size)
  clear hS bA t1
  generalize w1.alloc (.cells #[.int .i64 1, .int .i64 0] 23) = W2 at *
  generalize w1.heap.size = K at *
  refine wp_region_held_drew (S := K2 K 1 0) (by kernel_rfl) hK (fun hHeld => ?_)
  clear hK
  refine reg_take (i := 0) (v := ?_) rfl rfl (by kernel_rfl) (by kernel_rfl) (by kernel_rfl) (fun _ _ _ h => h) (by assumption) (by rfl) ?_ ?_
  rotate_left 1
  · (intro w hSw; (try dsimp only at hSw); go_simp; try with_reducible rfl)
  try simp only [List.setIfInBounds_toArray, List.set_cons_zero, List.set_cons_succ]
  refine reg_take (i := 1) (v := ?_) rfl rfl (by kernel_rfl) (by kernel_rfl) (by kernel_rfl) (fun _ _ _ h => h) (by assumption) (by rfl) ?_ ?_
  rotate_left 1
  · (intro w hSw; (try dsimp only at hSw); go_simp; try with_reducible rfl)
  try simp only [List.setIfInBounds_toArray, List.set_cons_zero, List.set_cons_succ]
  refine reg_take (i := 2) (v := ?_) rfl rfl (by kernel_rfl) (by kernel_rfl) (by kernel_rfl) (fun _ _ _ h => h) (by assumption) (by rfl) ?_ ?_
  rotate_left 1
  · (intro w hSw; (try dsimp only at hSw); go_simp; try with_reducible rfl)
  try simp only [List.setIfInBounds_toArray, List.set_cons_zero, List.set_cons_succ]
  refine reg_take (i := 3) (v := ?_) rfl rfl (by kernel_rfl) (by kernel_rfl) (by kernel_rfl) (fun _ _ _ h => h) (by assumption) (by rfl) ?_ ?_
  rotate_left 1
  · (intro w hSw; (try dsimp only at hSw); go_simp; try with_reducible rfl)
  try simp only [List.setIfInBounds_toArray, List.set_cons_zero, List.set_cons_succ]
  refine reg_take (i := 4) (v := ?_) rfl rfl (by kernel_rfl) (by kernel_rfl) (by kernel_rfl) (fun _ _ _ h => h) (by assumption) (by rfl) ?_ ?_
  rotate_left 1
  · (intro w hSw; (try dsimp only at hSw); go_simp; try with_reducible rfl)
  try simp only [List.setIfInBounds_toArray, List.set_cons_zero, List.set_cons_succ]
  refine reg_step (i := 5) (by kernel_rfl) rfl (by rfl) (fun KC hKC => ?_)
  go_simp
  refine (num_any 5 _).mono ?_; rintro e w3 ⟨rfl, t3⟩
  have s3 := cells_two hHeld t3
  have t3' : Below W2.heap.size W2 w3 := (below_drewN (Below.refl _ W2) 1).trans t3
  have hS3 := hS2.keep (Turn.of_below t3' (fun _ => False)) id id
  have t4 := t2.trans (t3'.mono t2.size)
  clear hHeld t3 t3' hS2 t2
  refine hKC.out _ _ ?_ (fun hHeld => ?_)
  · exact s3
  clear hKC KC
  have hput := sput_any s l _ 1 0 (numV 5) hsl w3 hS3
  rw [show placeI 1 0 = 0 by decide, storePut0, show decide ((0 : Int) ≤ 0) = true from rfl] at hput
  refine reg_step (i := 6) (by kernel_rfl) rfl (by rfl) (fun KC hKC => ?_)
  go_simp
  refine hput.mono ?_; rintro e w5 ⟨rfl, hS5, T5⟩
  have s5 := turn_cells_two s3 T5 (fun q => hlK q)
  have t5 := t4.trans (T5.below (B := w.heap.size) t4.size (fun i q => by have : i = l := q; omega))
  clear T5 t4 hS3 s3 hput hHeld
  refine hKC.out _ _ ?_ (fun hHeld => ?_)
  · exact s5
  clear hKC KC
  refine reg_take (i := 7) (v := ?_) rfl rfl (by kernel_rfl) (by kernel_rfl) (by kernel_rfl) (fun _ _ _ h => h) (by assumption) (by rfl) ?_ ?_
  rotate_left 1
  · (intro w hSw; (try dsimp only at hSw); go_simp; try with_reducible rfl)
  try simp only [List.setIfInBounds_toArray, List.set_cons_zero, List.set_cons_succ]
  refine reg_take (i := 8) (v := ?_) rfl rfl (by kernel_rfl) (by kernel_rfl) (by kernel_rfl) (fun _ _ _ h => h) (by assumption) (by rfl) ?_ ?_
  rotate_left 1
  · (intro w hSw; (try dsimp only at hSw); go_simp; try with_reducible rfl)
  try simp only [List.setIfInBounds_toArray, List.set_cons_zero, List.set_cons_succ]
  refine wpAnyH_done (by kernel_rfl) ?_ _
  clear hHeld
  go_wp2_with fail
  refine (look_any s l _ _ hS5).mono ?_; rintro e w6 ⟨L, rfl, rfl, rfl, hV6, t6, gv, gr, gm⟩
  have s6 := cells_two s5 t6
  have b6 := t5.trans (t6.mono t5.size)
  have hb5 := t5.size
  have hKs := cell_block_lt s5.1
  have hKr : K ≠ L.r := by simp at hKs; omega
  have hKm : K ≠ L.m := by simp at hKs; omega
  have grm := hV6.ne
  have gr' : w.heap.size ≤ L.r := by omega
  have gm' : w.heap.size ≤ L.m := by omega
  have hO6 : VOk (VSt.fresh (updB (fun _ => Val.zero) 0 (numV 5))) := VOk.fresh _
  generalize hst : VSt.fresh (updB (fun _ => Val.zero) 0 (numV 5)) = st0 at *
  have g0 : st0.get 1 0 = numV 5 := by rw [← hst]; rfl
  have HST := Lib.hid hst
  have HG0 := Lib.hid g0
  clear s5 t5 t6 hS5 hst g0
  go_upto_region 8 with fail
  obtain ⟨c0, c1⟩ := s6
  go_wp2_with fail
  refine (vget_any L st0 1 0 _ hV6).mono ?_; rintro e w7 ⟨rfl, hV7, T7⟩
  rw [HG0.out]
  have s7 := turn_cells_two ⟨c0, c1⟩ T7 hKr
  have b7 := b6.trans (T7.below (B := w.heap.size) b6.size (fun i q => by have : i = L.r := q; omega))
  have hO7 := hO6.saw 1 0
  clear c0 c1 b6 T7 hV6 hO6
  go_upto_region 9 with fail
  have bB : Below w7.heap.size w7 (w7.alloc (.cells (numV 5).cells 44)) := (Below.refl _ _).alloc (Nat.le_refl _) _
  have r8 : blk (w7.alloc (.cells (numV 5).cells 44)) w7.heap.size = some (.cells (numV 5).cells 44 (0, 0)) := heap_alloc_new _ _
  have s8 := cells_two s7 bB
  have hV8 := hV7.below bB
  have b8 := b7.trans (bB.mono b7.size)
  have hB4 := b7.size
  have hB4m : w7.heap.size ≠ L.m := by obtain ⟨_, _, q, _⟩ := hV7.cm; have := lt_of_heap q; omega
  have hB4r : w7.heap.size ≠ L.r := by obtain ⟨_, _, q, _⟩ := hV7.cr; have := lt_of_heap q; omega
  clear s7 hV7 b7 bB
  generalize w7.alloc (.cells (numV 5).cells 44) = W8 at *
  generalize w7.heap.size = B4 at *
  refine wp_region_held_drew (S := K2 K 1 0) (by kernel_rfl) s8 (fun hHeld => ?_)
  refine reg_take (i := 0) (v := ?_) rfl rfl (by kernel_rfl) (by kernel_rfl) (by kernel_rfl) (fun _ _ _ h => h) (by assumption) (by rfl) ?_ ?_
  rotate_left 1
  · (intro w hSw; (try dsimp only at hSw); go_simp; try with_reducible rfl)
  try simp only [List.setIfInBounds_toArray, List.set_cons_zero, List.set_cons_succ]
  refine reg_take (i := 1) (v := ?_) rfl rfl (by kernel_rfl) (by kernel_rfl) (by kernel_rfl) (fun _ _ _ h => h) (by assumption) (by rfl) ?_ ?_
  rotate_left 1
  · (intro w hSw; (try dsimp only at hSw); go_simp; try with_reducible rfl)
  try simp only [List.setIfInBounds_toArray, List.set_cons_zero, List.set_cons_succ]
  refine reg_step (i := 2) (by kernel_rfl) rfl (by rfl) (fun KC hKC => ?_)
  go_simp
  refine (num_any 6 _).mono ?_; rintro e w9 ⟨rfl, t9⟩
  have s9 := cells_two hHeld t9
  have t9' : Below W8.heap.size W8 w9 := (below_drewN (Below.refl _ W8) 1).trans t9
  have hV9 := hV8.below t9'
  have r9 : blk w9 B4 = _ := (t9'.block _ (lt_of_heap r8)).trans r8
  have b9 := b8.trans (t9'.mono b8.size)
  clear hHeld t9 t9' hV8 r8 b8 s8
  refine hKC.out _ _ ?_ (fun hHeld => ?_)
  · exact s9
  clear hKC KC
  refine reg_step (i := 3) (by kernel_rfl) rfl (by rfl) (fun KC hKC => ?_)
  go_simp
  refine (vput_any L _ 1 0 (numV 6) _ hV9).mono ?_; rintro e w10 ⟨rfl, hV10, T10⟩
  have s10 := turn_cells_two s9 T10 hKm
  have r10 := blk_of_turn T10 r9 hB4m
  have b10 := b9.trans (T10.below (B := w.heap.size) b9.size (fun i q => by have : i = L.m := q; omega))
  have hO10 := hO7.put 1 0 (numV 6)
  clear T10 s9 r9 b9 hV9 hO7 hHeld
  refine hKC.out _ _ ?_ (fun hHeld => ?_)
  · exact s10
  clear hKC KC hHeld
  refine wpAnyH_done (by kernel_rfl) ?_ _
  obtain ⟨c0, c1⟩ := s10
  go_wp2_with fail
  refine (vget_any L _ 1 0 _ hV10).mono ?_; rintro e w11 ⟨rfl, hV11, T11⟩
  have g6 : ((st0.saw 1 0).put 1 0 (numV 6)).get 1 0 = numV 6 := rfl
  rw [g6]
  have s11 := turn_cells_two ⟨c0, c1⟩ T11 hKr
  have r11 := blk_of_turn T11 r10 hB4r
  have b11 := b10.trans (T11.below (B := w.heap.size) b10.size (fun i q => by have : i = L.r := q; omega))
  have hO11 := hO10.saw 1 0
  have eb : (((st0.saw 1 0).put 1 0 (numV 6)).saw 1 0).base = st0.base := rfl
  have erd : rdP (((st0.saw 1 0).put 1 0 (numV 6)).saw 1 0) = [0] := by rw [← HST.out]; exact run_rd
  have ewr : wrL (((st0.saw 1 0).put 1 0 (numV 6)).saw 1 0) = [((1, 0), numV 6)] := by rw [← HST.out]; exact run_wr
  have EB := Lib.hid eb
  have ERD := Lib.hid erd
  have EWR := Lib.hid ewr
  clear c0 c1 b10 T11 hV10 hO10 g6 r10 eb erd ewr
  generalize ((st0.saw 1 0).put 1 0 (numV 6)).saw 1 0 = st4 at *
  have hsl : storeLook st4.base 1 0 = numV 5 := by
    rw [EB.out, ← HST.out]; rfl
  have HSL := Lib.hid hsl
  have hV5 := fun x => neqV_run (numV 5) x
  have hV6 := fun x => neqV_run (numV 6) x
  clear hsl EB
  go_upto_region 11 with fail
  have bC : Below w11.heap.size w11 (w11.alloc (.cells (numV 6).cells 44)) := (Below.refl _ _).alloc (Nat.le_refl _) _
  have s12 : SR K B4 w11.heap.size (w11.alloc (.cells (numV 6).cells 44)) := ⟨cells_two s11 bC, (bC.block _ (lt_of_heap r11)).trans r11, heap_alloc_new _ _⟩
  have hV12 := hV11.below bC
  have b12 := b11.trans (bC.mono b11.size)
  clear s11 r11 hV11 b11 bC
  generalize w11.alloc (.cells (numV 6).cells 44) = W12 at *
  generalize w11.heap.size = B5 at *
  refine wp_region_held_drew (S := SR K B4 B5) (by kernel_rfl) s12 (fun hHeld => ?_)
  refine reg_take (i := 0) (v := .agg (numV 5).cells) rfl rfl (by kernel_rfl) (by kernel_rfl) (by kernel_rfl) (fun _ _ _ h => h) (by assumption) (by rfl) (fun w hS => loadV_blk hS.2.1) ?_
  try simp only [List.setIfInBounds_toArray, List.set_cons_zero, List.set_cons_succ]
  refine reg_step (i := 1) (by kernel_rfl) rfl (by rfl) (fun KC hKC => ?_)
  go_simp
  refine (num_any 5 _).mono ?_; rintro e w13 ⟨rfl, t13⟩
  have t13' : Below W12.heap.size W12 w13 := (below_drewN (Below.refl _ W12) 1).trans t13
  have s13 := sr_below s12 t13'
  have hV13 := hV12.below t13'
  have b13 := b12.trans (t13'.mono b12.size)
  clear t13 t13' hHeld s12 hV12 b12
  refine hKC.out _ _ ?_ (fun hHeld => ?_)
  · exact s13
  clear hKC KC
  refine reg_take (i := 2) (v := .bool true) rfl rfl (by kernel_rfl) (by kernel_rfl) (by kernel_rfl) (fun _ _ _ h => h) (by assumption) (by rfl) (fun w hS => run_eql_op rfl rfl (by kernel_rfl) (hV5 w)) ?_
  try simp only [List.setIfInBounds_toArray, List.set_cons_zero, List.set_cons_succ]
  refine reg_take (i := 3) (v := ?_) rfl rfl (by kernel_rfl) (by kernel_rfl) (by kernel_rfl) (fun _ _ _ h => h) (by assumption) (by rfl) ?_ ?_
  rotate_left 1
  · (intro w hSw; (try dsimp only at hSw); go_simp; try with_reducible rfl)
  try simp only [List.setIfInBounds_toArray, List.set_cons_zero, List.set_cons_succ]
  refine reg_take (i := 4) (v := .agg (numV 6).cells) rfl rfl (by kernel_rfl) (by kernel_rfl) (by kernel_rfl) (fun _ _ _ h => h) (by assumption) (by rfl) (fun w hS => loadV_blk hS.2.2) ?_
  try simp only [List.setIfInBounds_toArray, List.set_cons_zero, List.set_cons_succ]
  refine reg_step (i := 5) (by kernel_rfl) rfl (by rfl) (fun KC hKC => ?_)
  go_simp
  refine (num_any 6 _).mono ?_; rintro e w14 ⟨rfl, t14⟩
  have s14 := sr_below s13 t14
  have hV14 := hV13.below t14
  have b14 := b13.trans (t14.mono b13.size)
  clear t14 hHeld s13 hV13 b13
  refine hKC.out _ _ ?_ (fun hHeld => ?_)
  · exact s14
  clear hKC KC
  refine reg_take (i := 6) (v := .bool true) rfl rfl (by kernel_rfl) (by kernel_rfl) (by kernel_rfl) (fun _ _ _ h => h) (by assumption) (by rfl) (fun w hS => run_eql_op rfl rfl (by kernel_rfl) (hV6 w)) ?_
  try simp only [List.setIfInBounds_toArray, List.set_cons_zero, List.set_cons_succ]
  refine reg_take (i := 7) (v := ?_) rfl rfl (by kernel_rfl) (by kernel_rfl) (by kernel_rfl) (fun _ _ _ h => h) (by assumption) (by rfl) ?_ ?_
  rotate_left 1
  · (intro w hSw; (try dsimp only at hSw); go_simp; try with_reducible rfl)
  try simp only [List.setIfInBounds_toArray, List.set_cons_zero, List.set_cons_succ]
  refine reg_take (i := 8) (v := ?_) rfl rfl (by kernel_rfl) (by kernel_rfl) (by kernel_rfl) (fun _ _ _ h => h) (by assumption) (by rfl) ?_ ?_
  rotate_left 1
  · (intro w hSw; (try dsimp only at hSw); go_simp; try with_reducible rfl)
  try simp only [List.setIfInBounds_toArray, List.set_cons_zero, List.set_cons_succ]
  refine reg_take (i := 9) (v := ?_) rfl rfl (by kernel_rfl) (by kernel_rfl) (by kernel_rfl) (fun _ _ _ h => h) (by assumption) (by rfl) ?_ ?_
  rotate_left 1
  · (intro w hSw; (try dsimp only at hSw); go_simp; try with_reducible rfl)
  try simp only [List.setIfInBounds_toArray, List.set_cons_zero, List.set_cons_succ]
  refine reg_take (i := 10) (v := ?_) rfl rfl (by kernel_rfl) (by kernel_rfl) (by kernel_rfl) (fun _ _ _ h => h) (by assumption) (by rfl) ?_ ?_
  rotate_left 1
  · (intro w hSw; (try dsimp only at hSw); go_simp; try with_reducible rfl)
  try simp only [List.setIfInBounds_toArray, List.set_cons_zero, List.set_cons_succ]
  refine reg_step (i := 11) (by kernel_rfl) rfl (by rfl) (fun KC hKC => ?_)
  go_simp
  have hsg := sget_any L.s L.l _ 1 0 _ hV14.sa
  rw [HSL.out] at hsg
  refine hsg.mono ?_; rintro e w15 ⟨rfl, t15⟩
  have s15 := sr_below s14 t15
  have hV15 := hV14.below t15
  have b15 := b14.trans (t15.mono b14.size)
  clear t15 hHeld s14 hV14 b14 hsg HSL
  refine hKC.out _ _ ?_ (fun hHeld => ?_)
  · exact s15
  clear hKC KC
  refine reg_step (i := 12) (by kernel_rfl) rfl (by rfl) (fun KC hKC => ?_)
  go_simp
  refine (num_any 5 _).mono ?_; rintro e w16 ⟨rfl, t16⟩
  have s16 := sr_below s15 t16
  have hV16 := hV15.below t16
  have b16 := b15.trans (t16.mono b15.size)
  clear t16 hHeld s15 hV15 b15
  refine hKC.out _ _ ?_ (fun hHeld => ?_)
  · exact s16
  clear hKC KC
  refine reg_take (i := 13) (v := .bool true) rfl rfl (by kernel_rfl) (by kernel_rfl) (by kernel_rfl) (fun _ _ _ h => h) (by assumption) (by rfl) (fun w hS => run_eql_op rfl rfl (by kernel_rfl) (hV5 w)) ?_
  try simp only [List.setIfInBounds_toArray, List.set_cons_zero, List.set_cons_succ]
  refine reg_take (i := 14) (v := ?_) rfl rfl (by kernel_rfl) (by kernel_rfl) (by kernel_rfl) (fun _ _ _ h => h) (by assumption) (by rfl) ?_ ?_
  rotate_left 1
  · (intro w hSw; (try dsimp only at hSw); go_simp; try with_reducible rfl)
  try simp only [List.setIfInBounds_toArray, List.set_cons_zero, List.set_cons_succ]
  refine reg_take (i := 15) (v := ?_) rfl rfl (by kernel_rfl) (by kernel_rfl) (by kernel_rfl) (fun _ _ _ h => h) (by assumption) (by rfl) ?_ ?_
  rotate_left 1
  · (intro w hSw; (try dsimp only at hSw); go_simp; try with_reducible rfl)
  try simp only [List.setIfInBounds_toArray, List.set_cons_zero, List.set_cons_succ]
  refine reg_take (i := 16) (v := ?_) rfl rfl (by kernel_rfl) (by kernel_rfl) (by kernel_rfl) (fun _ _ _ h => h) (by assumption) (by rfl) ?_ ?_
  rotate_left 1
  · (intro w hSw; (try dsimp only at hSw); go_simp; try with_reducible rfl)
  try simp only [List.setIfInBounds_toArray, List.set_cons_zero, List.set_cons_succ]
  refine reg_take (i := 18) (v := ?_) rfl rfl (by kernel_rfl) (by kernel_rfl) (by kernel_rfl) (fun _ _ _ h => h) (by assumption) (by rfl) ?_ ?_
  rotate_left 1
  · (intro w hSw; (try dsimp only at hSw); go_simp; try with_reducible rfl)
  try simp only [List.setIfInBounds_toArray, List.set_cons_zero, List.set_cons_succ]
  refine reg_two (i := 17) (j := 19) (by kernel_rfl) rfl rfl (by rfl) (by rfl) (fun KC hKC => ?_) (fun KC hKC => ?_)
  go_simp
  refine (vreads_any L st4 _ hV16 hO11).mono ?_; rintro e w17 ⟨v, rfl, hkl, t17⟩
  rw [ERD.out, show ([0] : List Int).length = 1 from rfl] at hkl
  have s17 := sr_below s16 t17
  have hV17 := hV16.below t17
  have b17 := b16.trans (t17.mono b16.size)
  obtain ⟨ar, cr, rfl, hkr, _, _⟩ := hkl.kr
  clear t17 hHeld s16 hV16 b16 hkl
  refine hKC.out _ _ ?_ (fun hHeld => ?_)
  · exact s17
  clear hKC KC
  have bD : Below w17.heap.size w17 (w17.alloc (.cells #[.int .i64 1, .int .i64 0] 23)) := (Below.refl _ _).alloc (Nat.le_refl _) _
  have s18 := sr_below s17 bD
  refine reg_run (i := 19) (v := .slice (some ⟨w17.heap.size, 0, none⟩) 1 1) (w' := w17.alloc (.cells #[.int .i64 1, .int .i64 0] 23)) (by kernel_rfl) rfl rfl (by rfl) (by kernel_rfl) s18 (fun hHeld => ?_)
  try simp only [List.setIfInBounds_toArray, List.set_cons_zero, List.set_cons_succ]
  have hV18 := hV17.below bD
  have b18 := b17.trans (bD.mono b17.size)
  have hkr8 := hkr.below bD
  have hg8 : KR (w17.alloc (.cells #[.int .i64 1, .int .i64 0] 23)) (some ⟨w17.heap.size, 0, none⟩) 1 (fun _ => (1, 0)) := kr_one (cell_of_row _ _ 0 _ _ _ (heap_alloc_new _ _)) (cell_of_row _ _ 1 _ _ _ (heap_alloc_new _ _))
  clear s17 hV17 b17 hkr bD hHeld
  generalize w17.alloc (.cells #[.int .i64 1, .int .i64 0] 23) = w18 at *
  generalize w17.heap.size = G at *
  rotate_left 1
  go_simp
  have bD : Below w16.heap.size w16 (w16.alloc (.cells #[.int .i64 1, .int .i64 0] 23)) := (Below.refl _ _).alloc (Nat.le_refl _) _
  have s17 := sr_below s16 bD
  have hV17 := hV16.below bD
  have b17 := b16.trans (bD.mono b16.size)
  have hg7 : KR (w16.alloc (.cells #[.int .i64 1, .int .i64 0] 23)) (some ⟨w16.heap.size, 0, none⟩) 1 (fun _ => (1, 0)) := kr_one (cell_of_row _ _ 0 _ _ _ (heap_alloc_new _ _)) (cell_of_row _ _ 1 _ _ _ (heap_alloc_new _ _))
  clear s16 hV16 b16 bD hHeld
  generalize w16.alloc (.cells #[.int .i64 1, .int .i64 0] 23) = w17 at *
  generalize w16.heap.size = G at *
  refine hKC.out _ _ ?_ (fun hHeld => ?_)
  · exact s17
  clear hKC KC
  refine reg_step (i := 17) (by kernel_rfl) rfl (by rfl) (fun KC hKC => ?_)
  go_simp
  refine (vreads_any L st4 _ hV17 hO11).mono ?_; rintro e w18 ⟨v, rfl, hkl, t18⟩
  rw [ERD.out, show ([0] : List Int).length = 1 from rfl] at hkl
  have s18 := sr_below s17 t18
  have hV18 := hV17.below t18
  have b18 := b17.trans (t18.mono b17.size)
  have hg8 := hg7.below t18
  obtain ⟨ar, cr, rfl, hkr8, _, _⟩ := hkl.kr
  clear t18 hHeld s17 hV17 b17 hkl hg7
  refine hKC.out _ _ ?_ (fun hHeld => ?_)
  · exact s18
  clear hKC KC hHeld
  all_goals
    refine reg_step (i := 20) (by kernel_rfl) rfl (by rfl) (fun KC hKC => ?_)
    go_simp
    refine (same_yes ar (some ⟨G, 0, none⟩) 1 cr 1 w18 (by decide) (same_kr hkr8 (hg8.congr fun i hi => by obtain rfl : i = 0 := (by omega); exact sk_zero))).mono ?_; rintro e w20 ⟨rfl, t20⟩
    have s20 := sr_below s18 t20
    have hV20 := hV18.below t20
    have b20 := b18.trans (t20.mono b18.size)
    clear t20 s18 hV18 b18 hkr8 hg8
    refine hKC.out _ _ ?_ (fun hHeld => ?_)
    · exact s20
    clear hKC KC
    refine reg_take (i := 21) (v := ?_) rfl rfl (by kernel_rfl) (by kernel_rfl) (by kernel_rfl) (fun _ _ _ h => h) (by assumption) (by rfl) ?_ ?_
    rotate_left 1
    · (intro w hSw; (try dsimp only at hSw); go_simp; try with_reducible rfl)
    try simp only [List.setIfInBounds_toArray, List.set_cons_zero, List.set_cons_succ]
    refine reg_take (i := 22) (v := ?_) rfl rfl (by kernel_rfl) (by kernel_rfl) (by kernel_rfl) (fun _ _ _ h => h) (by assumption) (by rfl) ?_ ?_
    rotate_left 1
    · (intro w hSw; (try dsimp only at hSw); go_simp; try with_reducible rfl)
    try simp only [List.setIfInBounds_toArray, List.set_cons_zero, List.set_cons_succ]
    refine reg_take (i := 23) (v := ?_) rfl rfl (by kernel_rfl) (by kernel_rfl) (by kernel_rfl) (fun _ _ _ h => h) (by assumption) (by rfl) ?_ ?_
    rotate_left 1
    · (intro w hSw; (try dsimp only at hSw); go_simp; try with_reducible rfl)
    try simp only [List.setIfInBounds_toArray, List.set_cons_zero, List.set_cons_succ]
    refine reg_take (i := 25) (v := ?_) rfl rfl (by kernel_rfl) (by kernel_rfl) (by kernel_rfl) (fun _ _ _ h => h) (by assumption) (by rfl) ?_ ?_
    rotate_left 1
    · (intro w hSw; (try dsimp only at hSw); go_simp; try with_reducible rfl)
    try simp only [List.setIfInBounds_toArray, List.set_cons_zero, List.set_cons_succ]
    refine reg_step (i := 24) (by kernel_rfl) rfl (by rfl) (fun KC hKC => ?_)
    go_simp
    refine (vredo_any L st4 _ hV20 hO11).mono ?_; rintro e w24 ⟨v2, rfl, hwl, t24⟩
    rw [EWR.out] at hwl
    have s24 := sr_below s20 t24
    have b24 := b20.trans (t24.mono b20.size)
    obtain ⟨a2, c2, rfl, _, hwr⟩ := hwl.form
    rw [show ([((1, 0), numV 6)] : List Wr).length = 1 from rfl]
    clear t24 s20 hV20 b20 hwl hHeld
    refine hKC.out _ _ ?_ (fun hHeld => ?_)
    · exact s24
    clear hKC KC
    refine reg_step (i := 26) (by kernel_rfl) rfl (by rfl) (fun KC hKC => ?_)
    go_simp
    refine (num_any 6 _).mono ?_; rintro e w26 ⟨rfl, t26⟩
    have s26 := sr_below s24 t26
    have b26 := b24.trans (t26.mono b24.size)
    have hwr6 := hwr.below t26
    clear t26 s24 b24 hwr hHeld
    refine hKC.out _ _ ?_ (fun hHeld => ?_)
    · exact s26
    clear hKC KC
    refine reg_take (i := 27) (v := .agg (wcells 1 0 (numV 6))) rfl rfl (by kernel_rfl) (by kernel_rfl) (by kernel_rfl) (fun _ _ _ h => h) (by assumption) (by rfl) (fun w _ => by kernel_rfl) ?_
    try simp only [List.setIfInBounds_toArray, List.set_cons_zero, List.set_cons_succ]
    have bE : Below w26.heap.size w26 (w26.alloc (.cells (wcells 1 0 (numV 6)) 53)) := (Below.refl _ _).alloc (Nat.le_refl _) _
    have s28 := sr_below s26 bE
    refine reg_run (i := 28) (v := .slice (some ⟨w26.heap.size, 0, none⟩) 1 1) (w' := w26.alloc (.cells (wcells 1 0 (numV 6)) 53)) (by kernel_rfl) rfl rfl (by rfl) (by kernel_rfl) s28 (fun hHeld => ?_)
    try simp only [List.setIfInBounds_toArray, List.set_cons_zero, List.set_cons_succ]
    have hwg : WR (w26.alloc (.cells (wcells 1 0 (numV 6)) 53)) (some ⟨w26.heap.size, 0, none⟩) [((1, 0), numV 6)] := wr_one _ _ _ _ _ (heap_alloc_new _ _)
    have hwr8 := hwr6.below bE
    have b28 := b26.trans (bE.mono b26.size)
    clear s26 b26 hwr6 bE
    generalize w26.alloc (.cells (wcells 1 0 (numV 6)) 53) = w28 at *
    generalize w26.heap.size = G2 at *
    refine reg_step (i := 29) (by kernel_rfl) rfl (by rfl) (fun KC hKC => ?_)
    go_simp
    refine (same_wr a2 (some ⟨G2, 0, none⟩) c2 1 [((1, 0), numV 6)] w28 (by decide) hwr8 hwg).mono ?_; rintro e w29 ⟨rfl, t29⟩
    have s29 := sr_below s28 t29
    have b29 := b28.trans (t29.mono b28.size)
    clear t29 s28 b28 hwr8 hwg hHeld
    refine hKC.out _ _ ?_ (fun hHeld => ?_)
    · exact s29
    clear hKC KC
    refine reg_take (i := 30) (v := ?_) rfl rfl (by kernel_rfl) (by kernel_rfl) (by kernel_rfl) (fun _ _ _ h => h) (by assumption) (by rfl) ?_ ?_
    rotate_left 1
    · (intro w hSw; (try dsimp only at hSw); go_simp; try with_reducible rfl)
    try simp only [List.setIfInBounds_toArray, List.set_cons_zero, List.set_cons_succ]
    refine reg_take (i := 31) (v := ?_) rfl rfl (by kernel_rfl) (by kernel_rfl) (by kernel_rfl) (fun _ _ _ h => h) (by assumption) (by rfl) ?_ ?_
    rotate_left 1
    · (intro w hSw; (try dsimp only at hSw); go_simp; try with_reducible rfl)
    try simp only [List.setIfInBounds_toArray, List.set_cons_zero]
    refine wpAnyH_done (by kernel_rfl) ?_ _
    clear hHeld s29 hV5 hV6
    go_wp2_with fail
    go_ret
    exact ⟨rfl, b29⟩
theorem storeRuns_walk (w : World) : Calls Try.prog 8 #[] w fun e w' => e = .returned (.bool true) ∧ Below w.heap.size w w' := sruns_any w
end Go.Proofs.Ytncgppdmfnapiaa.St
