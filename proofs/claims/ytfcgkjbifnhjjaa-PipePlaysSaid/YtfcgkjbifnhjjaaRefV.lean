/- The document's own store and view in memory, as plain states; the contracts of their Get and Put. No condition but those written in each statement. -/
import Derived.Test.YtfcgkjbifnhjjaaPlc
import Derived.Test.YtfcgkjbifnhjjaaMapI
import Derived.Test.YtfcgkjbifnhjjaaWri
import Derived.Test.YtfcgkjbifnhjjaaKeyRf
import Derived.Deep.Cut
namespace Go.Proofs.Ytfcgkjbifnhjjaa.St
open Go.RowKit
set_option linter.unusedVariables false

/-- The document's store in memory. -/
structure RStoreAt (W : World) (d r : Nat) (base : Nat → Val) : Prop where
  cd : blk W d = some (.cells #[.map (some r)] 89 (0, 0))
  cm : ∃ es clk f, blk W r = some (.map es clk) ∧ KI es clk f ∧ (∀ p v, f p = some v → 0 ≤ p ∧ p < 55) ∧ ∀ p : Nat, p < 55 → (f p).getD (.agg Val.zero.cells) = .agg (base p).cells
theorem RStoreAt.keep {S : Nat → Prop} {W W' : World} {d r : Nat} {base : Nat → Val} (h : RStoreAt W d r base) (hT : Turn S W W') (hd : ¬ S d) (hr : ¬ S r) : RStoreAt W' d r base := by
  obtain ⟨es, clk, f, h1, h2⟩ := h.cm
  exact ⟨blk_of_turn hT h.cd hd, es, clk, f, blk_of_turn hT h1 hr, h2⟩
theorem RStoreAt.below {W W' : World} {d r : Nat} {base : Nat → Val} (h : RStoreAt W d r base) (hb : Below W.heap.size W W') : RStoreAt W' d r base := h.keep (Turn.of_below hb (fun _ => False)) id id
theorem place_ge' (k m : Int) : -1 ≤ placeI k m := by
  have h2 : manyI k ≤ 0 ∨ (1 ≤ k ∧ k ≤ 12) := by
    unfold manyI
    repeat' split
    all_goals omega
  unfold placeI
  split
  · omega
  · rcases h2 with h2 | ⟨h2, h3⟩
    · omega
    · have := ahead_range h2 h3; omega
theorem place_wfI (k m : Int) : wfI (placeI k m) := wfI_of (by have := place_ge' k m; omega) (by
  by_cases h : 0 ≤ placeI k m
  · have := k_place_lt _ _ h; omega
  · omega)
theorem RStoreAt.look {f : Int → Option Value} {base : Nat → Val} (h1 : ∀ p v, f p = some v → 0 ≤ p ∧ p < 55) (h2 : ∀ p : Nat, p < 55 → (f p).getD (.agg Val.zero.cells) = .agg (base p).cells) (k n : Int) : (f (placeI k n)).getD (.agg Val.zero.cells) = .agg (storeLook base k n).cells := by
  unfold storeLook
  by_cases h : placeI k n < 0
  · rw [if_pos h]
    cases hf : f (placeI k n) with
    | none => rfl
    | some v => have := h1 _ _ hf; omega
  · have := k_place_lt k n (by omega)
    rw [if_neg h, ← h2 _ (by omega)]
    congr 2
    omega
theorem cell_setRow_far (W : World) (g b i : Nat) (cs : Array Value) (h : b ≠ g) : (W.setRow g cs).cell? ⟨b, i, none⟩ = W.cell? ⟨b, i, none⟩ := by
  simp only [World.cell?, setRow_other W g b cs h]
theorem loadV_blk {W : World} {b : Nat} {x : Val} {t : TypeId} {fz : Nat × Nat} (h : blk W b = some (.cells x.cells t fz)) : (loadV (.pointer (some ⟨b, 0, none⟩))).run Try.prog W = .ok (.value (.agg x.cells)) W := by
  rw [run_loadV, h]; exact loadOr_cells _ _ _ _ _ (cells_size x)
theorem run_op_look {T : TypeId} {m k : Value} {ok : Bool} {ρ : Operand → Value} {x y : Operand} {dst : Option Tmp} {ty : TypeId} {pos : String} {after : Array Edge} {guard : Option (Nat × Bool)} {w : World} {v : Value} (hx : ρ x = m) (hy : ρ y = k) (h : (Instr.lookup T m k ok).run Try.prog w = .ok v w) :
    (execOp ρ { dst, op := .lookup T x y ok, type := ty, pos, after, guard }).run Try.prog w = .ok (.value v) w := by
  simp [execOp, hx, hy, h]
theorem cells_two {W W' : World} {K : Nat} {A C : Int} (h : W.cell? ⟨K, 0, none⟩ = some (.int .i64 A) ∧ W.cell? ⟨K, 1, none⟩ = some (.int .i64 C)) (hb : Below W.heap.size W W') : W'.cell? ⟨K, 0, none⟩ = some (.int .i64 A) ∧ W'.cell? ⟨K, 1, none⟩ = some (.int .i64 C) :=
  ⟨(hb.cell (cell_block_lt h.1)).trans h.1, (hb.cell (cell_block_lt h.2)).trans h.2⟩

attribute [local go_sem] blk_alloc_at blk_alloc_past blk_drew blk_drewN blk_setB_same blk_setB_other blk_setRow_other setRow_alloc_at setRow_alloc_past setRow_drewN setRow_drew setB_size setB_cell setB_frozen setB_alloc_past setB_drewN setB_drew run_loadV loadOr_cells run_storeV storeOr_cells cells_size ones_cells
attribute [local go_sem ↓] execOp_loadV execOp_storeV
attribute [local go_sem ↓] wp_at0 wp_at1 wp_at2 wp_at3 wp_at4 wp_at5 wp_at6 wp_at7
attribute [local irreducible] Int.lt Int.le
set_option maxRecDepth 100000 in
set_option maxHeartbeats 1000000 in
theorem rget_any (d r : Nat) (base : Nat → Val) (k n : Int) (hk : k ≤ 9223372036854775807) (w : World) (hR : RStoreAt w d r base) :
    Calls Try.prog 59 #[.pointer (some ⟨d, 0, none⟩), keyV k n] w fun e w' => e = .returned (.agg (storeLook base k n).cells) ∧ Below w.heap.size w w' := by
  obtain ⟨es, clk, f, hm, hki, hf1, hf2⟩ := hR.cm
  have hd := cell_of_row w d 0 _ _ _ hR.cd
  simp only [List.getElem?_toArray, List.getElem?_cons_zero] at hd
  have hlook := RStoreAt.look hf1 hf2 k n
  have hpl := fun W => rplace_any k n hk W
  have HL := Lib.hid hlook
  have HP := Lib.hid hpl
  have hz := zero_val
  clear hf1 hf2 hlook hpl
  generalize storeLook base k n = X at *
  have hld := lt_of_heap hR.cd
  have hlr := lt_of_heap hm
  go_enter Try.func59, Try.ntmps59
  go_wp2_with fail
  obtain ⟨W0, hW0⟩ : ∃ W0, (w.alloc (Obj.cells #[Value.int IntKind.i64 k, Value.int IntKind.i64 n] 51)).alloc (Obj.cells Val.zero.cells 47) = W0 := ⟨_, rfl⟩
  have b0 : Below w.heap.size w W0 := by rw [← hW0]; exact ((Below.refl _ _).alloc (Nat.le_refl _) _).alloc (by simp) _
  have kb : blk W0 w.heap.size = some (.cells #[.int .i64 k, .int .i64 n] 51 (0, 0)) := by rw [← hW0]; exact heap_alloc2_old _ _ _
  have rb : blk W0 (w.heap.size + 1) = some (.cells Val.zero.cells 47 (0, 0)) := by rw [← hW0]; exact heap_alloc2_new _ _ _
  have hsz : W0.heap.size = w.heap.size + 2 := by rw [← hW0]; simp
  rw [hW0]
  clear hW0
  have S0 : (fun W => W.cell? ⟨d, 0, none⟩ = some (.map (some r)) ∧ (W.cell? ⟨w.heap.size, 0, none⟩ = some (.int .i64 k) ∧ W.cell? ⟨w.heap.size, 1, none⟩ = some (.int .i64 n))) W0.drew :=
    ⟨(b0.cell (show (⟨d, 0, none⟩ : Addr).block < w.heap.size from hld)).trans hd, cell_of_row _ _ 0 _ _ _ kb, cell_of_row _ _ 1 _ _ _ kb⟩
  refine wp_region_held_drew (S := fun W => W.cell? ⟨d, 0, none⟩ = some (.map (some r)) ∧ (W.cell? ⟨w.heap.size, 0, none⟩ = some (.int .i64 k) ∧ W.cell? ⟨w.heap.size, 1, none⟩ = some (.int .i64 n))) (by kernel_rfl) S0 (fun hHeld => ?_)
  clear S0
  refine reg_take (i := 0) (v := ?_) rfl rfl (by kernel_rfl) (by kernel_rfl) (by kernel_rfl) (fun _ _ _ h => h) (by assumption) (by rfl) ?_ ?_
  rotate_left 1
  · (intro w hSw; (try dsimp only at hSw); go_simp; try with_reducible rfl)
  try simp only [List.setIfInBounds_toArray, List.set_cons_zero, List.set_cons_succ]
  refine reg_take (i := 1) (v := ?_) rfl rfl (by kernel_rfl) (by kernel_rfl) (by kernel_rfl) (fun _ _ _ h => h) (by assumption) (by rfl) ?_ ?_
  rotate_left 1
  · (intro w hSw; (try dsimp only at hSw); go_simp; try with_reducible rfl)
  try simp only [List.setIfInBounds_toArray, List.set_cons_zero, List.set_cons_succ]
  refine reg_take (i := 2) (v := ?_) rfl rfl (by kernel_rfl) (by kernel_rfl) (by kernel_rfl) (fun _ _ _ h => h) (by assumption) (by rfl) ?_ ?_
  rotate_left 1
  · (intro w hSw; (try dsimp only at hSw); go_simp; try with_reducible rfl)
  try simp only [List.setIfInBounds_toArray, List.set_cons_zero, List.set_cons_succ]
  refine reg_take (i := 3) (v := ?_) rfl rfl (by kernel_rfl) (by kernel_rfl) (by kernel_rfl) (fun _ _ _ h => h) (by assumption) (by rfl) ?_ ?_
  rotate_left 1
  · (intro w hSw; (try dsimp only at hSw); go_simp; try with_reducible rfl)
  try simp only [List.setIfInBounds_toArray, List.set_cons_zero, List.set_cons_succ]
  refine reg_take (i := 4) (v := ?_) rfl rfl (by kernel_rfl) (by kernel_rfl) (by kernel_rfl) (fun _ _ _ h => h) (by assumption) (by rfl) ?_ ?_
  rotate_left 1
  · (intro w hSw; (try dsimp only at hSw); go_simp; try with_reducible rfl)
  try simp only [List.setIfInBounds_toArray, List.set_cons_zero, List.set_cons_succ]
  refine reg_step (i := 5) (by kernel_rfl) rfl (by rfl) (fun KC hKC => ?_)
  go_simp
  refine (HP.out _).mono ?_; rintro e w5 ⟨rfl, t5⟩
  have t5' : Below W0.heap.size W0 w5 := (below_drewN (Below.refl _ W0) 1).trans t5
  have s5 : w5.cell? ⟨d, 0, none⟩ = some (.map (some r)) ∧ (w5.cell? ⟨w.heap.size, 0, none⟩ = some (.int .i64 k) ∧ w5.cell? ⟨w.heap.size, 1, none⟩ = some (.int .i64 n)) := ⟨(t5.cell (cell_block_lt hHeld.1)).trans hHeld.1, cells_two hHeld.2 t5⟩
  have b5 := b0.trans (t5'.mono (by omega))
  have m5 : blk w5 r = some (.map es clk) := (b5.block r hlr).trans hm
  have r5 : blk w5 (w.heap.size + 1) = some (.cells Val.zero.cells 47 (0, 0)) := (t5'.block _ (by omega)).trans rb
  have hlk := (run_lookI Try.underlying85 hki (placeI k n) (place_wfI k n) w5 m5 (hz w5)).2
  rw [HL.out] at hlk
  clear t5 t5' hHeld rb kb b0 hm
  refine hKC.out _ _ ?_ (fun hHeld => ?_)
  · exact s5
  clear hKC KC
  refine reg_run (i := 6) (v := .agg X.cells) (w' := w5) (by kernel_rfl) rfl rfl (by rfl) (run_op_look rfl rfl hlk) s5 (fun hHeld => ?_)
  try simp only [List.setIfInBounds_toArray, List.set_cons_zero, List.set_cons_succ]
  clear hlk
  have s6 : (fun W => W.cell? ⟨d, 0, none⟩ = some (.map (some r)) ∧ (W.cell? ⟨w.heap.size, 0, none⟩ = some (.int .i64 k) ∧ W.cell? ⟨w.heap.size, 1, none⟩ = some (.int .i64 n))) (w5.setRow (w.heap.size + 1) X.cells) := by
    refine ⟨?_, ?_, ?_⟩
    · rw [cell_setRow_far _ _ _ _ _ (by omega)]; exact s5.1
    · rw [cell_setRow_far _ _ _ _ _ (by omega)]; exact s5.2.1
    · rw [cell_setRow_far _ _ _ _ _ (by omega)]; exact s5.2.2
  refine reg_step (i := 7) (by kernel_rfl) rfl (by rfl) (fun KC hKC => ?_)
  go_simp
  refine hKC.out _ _ ?_ (fun hHeld => ?_)
  · exact s6
  refine wpAnyH_done (by kernel_rfl) ?_ _
  go_wp2_with fail
  exact bodyPost_val (b := w.heap.size + 1) rfl rfl rfl (setRow_heap _ _ _ _ _ _ r5) (cells_size _) ⟨rfl, below_setRow b5 (by omega) _⟩

theorem RStoreAt.upd {f : Int → Option Value} {base : Nat → Val} (h1 : ∀ p v, f p = some v → 0 ≤ p ∧ p < 55) (h2 : ∀ p : Nat, p < 55 → (f p).getD (.agg Val.zero.cells) = .agg (base p).cells) (k n : Int) (x : Val) (hp : 0 ≤ placeI k n) :
    (∀ p v, updI f (placeI k n) (.agg x.cells) p = some v → 0 ≤ p ∧ p < 55) ∧ ∀ p : Nat, p < 55 → (updI f (placeI k n) (.agg x.cells) p).getD (.agg Val.zero.cells) = .agg (storePut base k n x p).cells := by
  have hl := k_place_lt k n hp
  constructor
  · intro p v hv
    unfold updI at hv
    split at hv
    · rename_i e; subst e; exact ⟨hp, hl⟩
    · exact h1 p v hv
  · intro p hp5
    unfold updI storePut
    rw [if_neg (show ¬ placeI k n < 0 by omega)]
    unfold updB
    by_cases e : (p : Int) = placeI k n
    · rw [if_pos e, if_pos (by omega)]; rfl
    · rw [if_neg e, if_neg (by omega)]; exact h2 p hp5
theorem run_putI {T r : Nat} {es : Array MapEntry} {clk : Nat} {f : Int → Option Value} {E : Nat} (hT : Try.prog.underlying T = some (.map 3 E)) (h : KI es clk f) (p : Int) (hp : wfI p) (v : Value) :
    ∃ es' clk', KI es' clk' (updI f p v) ∧ ∀ W : World, blk W r = some (.map es clk) → (Instr.mapUpdate T (.map (some r)) (.int .i64 p) v).run Try.prog W = .ok () (setB W r (.map es' clk')) := by
  obtain ⟨es', clk', h1, h2⟩ := run_updI (r := r) hT h p hp v
  exact ⟨es', clk', h1, fun W hb => h2 W hb⟩
set_option maxRecDepth 100000 in
set_option maxHeartbeats 1000000 in
theorem rput_yes (d r : Nat) (base : Nat → Val) (k n : Int) (x : Val) (hk : k ≤ 9223372036854775807) (hpp : 0 ≤ placeI k n) (w : World) (hR : RStoreAt w d r base) :
    Calls Try.prog 40 #[.pointer (some ⟨d, 0, none⟩), keyV k n, .agg x.cells] w fun e w' => e = .returned (.bool true) ∧ RStoreAt w' d r (storePut base k n x) ∧ Turn (· = r) w w' := by
  obtain ⟨es, clk, f, hm, hki, hf1, hf2⟩ := hR.cm
  have hd := cell_of_row w d 0 _ _ _ hR.cd
  simp only [List.getElem?_toArray, List.getElem?_cons_zero] at hd
  have hpl := fun W => rplace_any k n hk W
  have HP := Lib.hid hpl
  have HU := Lib.hid (RStoreAt.upd hf1 hf2 k n x hpp)
  obtain ⟨es', clk', hk', hput⟩ := run_putI (r := r) Try.underlying85 hki (placeI k n) (place_wfI k n) (.agg x.cells)
  have HPut := Lib.hid hput
  have hrd : d ≠ r := cells_ne_map hR.cd hm
  clear hf1 hf2 hpl hput
  have hld := lt_of_heap hR.cd
  have hlr := lt_of_heap hm
  have hcd := hR.cd
  clear hR
  have HX : ∀ W', Turn (· = r) w W' → blk W' r = some (.map es' clk') → RStoreAt W' d r (storePut base k n x) := fun W' ht hb => ⟨blk_of_turn ht hcd hrd, es', clk', _, hb, hk', HU.out⟩
  have HXh := Lib.hid HX
  clear HX HU
  generalize storePut base k n x = X at *
  generalize placeI k n = P at *
  go_enter Try.func40, Try.ntmps40
  go_wp2_with fail
  refine (HP.out _).mono ?_; rintro e w1 ⟨rfl, hb⟩
  obtain ⟨k0, h2, h3, h4, h5⟩ := after2 hb
  have m1 := (h3 r hlr).trans hm
  have c1 := (h5.cell (show (⟨d, 0, none⟩ : Addr).block < w.heap.size from hld)).trans hd
  clear hb h3 hm hd
  go_upto_region 3 with fail
  have S0 : (fun W => W.cell? ⟨d, 0, none⟩ = some (.map (some r)) ∧ (W.cell? ⟨w.heap.size, 0, none⟩ = some (.int .i64 k) ∧ W.cell? ⟨w.heap.size, 1, none⟩ = some (.int .i64 n)) ∧ blk W (w.heap.size + 1) = some (.cells x.cells 47 (0, 0))) w1.drew :=
    ⟨c1, ⟨cell_of_row _ _ 0 _ _ _ k0, cell_of_row _ _ 1 _ _ _ k0⟩, h2⟩
  refine wp_region_held_drew (S := fun W => W.cell? ⟨d, 0, none⟩ = some (.map (some r)) ∧ (W.cell? ⟨w.heap.size, 0, none⟩ = some (.int .i64 k) ∧ W.cell? ⟨w.heap.size, 1, none⟩ = some (.int .i64 n)) ∧ blk W (w.heap.size + 1) = some (.cells x.cells 47 (0, 0))) (by kernel_rfl) S0 (fun hHeld => ?_)
  clear S0 c1
  refine reg_take (i := 0) (v := ?_) rfl rfl (by kernel_rfl) (by kernel_rfl) (by kernel_rfl) (fun _ _ _ h => h) (by assumption) (by rfl) ?_ ?_
  rotate_left 1
  · (intro w hSw; (try dsimp only at hSw); go_simp; try with_reducible rfl)
  try simp only [List.setIfInBounds_toArray, List.set_cons_zero, List.set_cons_succ]
  refine reg_take (i := 1) (v := ?_) rfl rfl (by kernel_rfl) (by kernel_rfl) (by kernel_rfl) (fun _ _ _ h => h) (by assumption) (by rfl) ?_ ?_
  rotate_left 1
  · (intro w hSw; (try dsimp only at hSw); go_simp; try with_reducible rfl)
  try simp only [List.setIfInBounds_toArray, List.set_cons_zero, List.set_cons_succ]
  refine reg_take (i := 2) (v := ?_) rfl rfl (by kernel_rfl) (by kernel_rfl) (by kernel_rfl) (fun _ _ _ h => h) (by assumption) (by rfl) ?_ ?_
  rotate_left 1
  · (intro w hSw; (try dsimp only at hSw); go_simp; try with_reducible rfl)
  try simp only [List.setIfInBounds_toArray, List.set_cons_zero, List.set_cons_succ]
  refine reg_take (i := 3) (v := ?_) rfl rfl (by kernel_rfl) (by kernel_rfl) (by kernel_rfl) (fun _ _ _ h => h) (by assumption) (by rfl) ?_ ?_
  rotate_left 1
  · (intro w hSw; (try dsimp only at hSw); go_simp; try with_reducible rfl)
  try simp only [List.setIfInBounds_toArray, List.set_cons_zero, List.set_cons_succ]
  refine reg_take (i := 4) (v := ?_) rfl rfl (by kernel_rfl) (by kernel_rfl) (by kernel_rfl) (fun _ _ _ h => h) (by assumption) (by rfl) ?_ ?_
  rotate_left 1
  · (intro w hSw; (try dsimp only at hSw); go_simp; try with_reducible rfl)
  try simp only [List.setIfInBounds_toArray, List.set_cons_zero, List.set_cons_succ]
  refine reg_take (i := 6) (v := .agg x.cells) rfl rfl (by kernel_rfl) (by kernel_rfl) (by kernel_rfl) (fun _ _ _ h => h) (by assumption) (by rfl) (fun w hS => loadV_blk hS.2.2) ?_
  try simp only [List.setIfInBounds_toArray, List.set_cons_zero, List.set_cons_succ]
  refine reg_step (i := 5) (by kernel_rfl) rfl (by rfl) (fun KC hKC => ?_)
  go_simp
  refine (HP.out _).mono ?_; rintro e w5 ⟨rfl, t5⟩
  have t5' : Below w1.heap.size w1 w5 := (below_drewN (Below.refl _ w1) 1).trans t5
  have s5 : w5.cell? ⟨d, 0, none⟩ = some (.map (some r)) ∧ (w5.cell? ⟨w.heap.size, 0, none⟩ = some (.int .i64 k) ∧ w5.cell? ⟨w.heap.size, 1, none⟩ = some (.int .i64 n)) ∧ blk w5 (w.heap.size + 1) = some (.cells x.cells 47 (0, 0)) := ⟨(t5.cell (cell_block_lt hHeld.1)).trans hHeld.1, cells_two hHeld.2.1 t5, (t5.block _ (lt_of_heap hHeld.2.2)).trans hHeld.2.2⟩
  have b5 := h5.trans (t5'.mono h5.size)
  have m5 : blk w5 r = some (.map es clk) := (t5'.block r (lt_of_heap m1)).trans m1
  clear t5 t5' hHeld m1 h5 h2 k0
  refine hKC.out _ _ ?_ (fun hHeld => ?_)
  · exact s5
  clear hKC KC
  have hput := HPut.out w5 m5
  have hlt5 := lt_of_heap m5
  have s6 : (fun W => W.cell? ⟨d, 0, none⟩ = some (.map (some r)) ∧ (W.cell? ⟨w.heap.size, 0, none⟩ = some (.int .i64 k) ∧ W.cell? ⟨w.heap.size, 1, none⟩ = some (.int .i64 n)) ∧ blk W (w.heap.size + 1) = some (.cells x.cells 47 (0, 0))) (setB w5 r (.map es' clk')) := by
    refine ⟨?_, ⟨?_, ?_⟩, ?_⟩
    · rw [setB_cell _ _ _ _ _ hrd]; exact s5.1
    · rw [setB_cell _ _ _ _ _ (by omega)]; exact s5.2.1.1
    · rw [setB_cell _ _ _ _ _ (by omega)]; exact s5.2.1.2
    · rw [blk_setB_other _ _ _ _ (by omega)]; exact s5.2.2
  refine reg_step (i := 7) (by kernel_rfl) rfl (by rfl) (fun KC hKC => ?_)
  go_simp
  refine hKC.out _ _ ?_ (fun hHeld => ?_)
  · exact s6
  refine wpAnyH_done (by kernel_rfl) ?_ _
  have ht : Turn (· = r) w (setB w5 r (.map es' clk')) := (Turn.of_below b5 (· = r)).setB (b := r) (Or.inl (show r = r from rfl)) _
  have hR := HXh.out _ ht (blk_setB_same _ _ _ hlt5)
  clear hKC KC s5 s6 hput m5 b5 HXh HPut
  go_wp2_with fail
  go_ret
  exact ⟨rfl, hR, ht⟩
theorem rput_any (d r : Nat) (base : Nat → Val) (k n : Int) (x : Val) (hk : k ≤ 9223372036854775807) (w : World) (hR : RStoreAt w d r base) :
    Calls Try.prog 40 #[.pointer (some ⟨d, 0, none⟩), keyV k n, .agg x.cells] w fun e w' => e = .returned (.bool (decide (0 ≤ placeI k n))) ∧ RStoreAt w' d r (storePut base k n x) ∧ Turn (· = r) w w' := by
  by_cases hpp : 0 ≤ placeI k n
  · rw [decide_eq_true hpp]; exact rput_yes d r base k n x hk hpp w hR
  · have hld := lt_of_heap hR.cd
    have hs : storePut base k n x = base := by unfold storePut; rw [if_pos (by omega)]
    rw [decide_eq_false hpp, hs]
    have hpl := fun W => rplace_any k n hk W
    have HP := Lib.hid hpl
    clear hpl
    have hd : decide (placeI k n < 0) = true := decide_eq_true (by omega)
    generalize placeI k n = P at *
    go_enter Try.func40, Try.ntmps40
    go_wp2_with fail
    refine (HP.out _).mono ?_; rintro e w1 ⟨rfl, hb⟩
    obtain ⟨_, h2, h3, h4, h5⟩ := after2 hb
    have S1 := hR.below h5
    clear hb h3 hR
    go_wp2_with fail
    go_ret
    exact ⟨rfl, S1, Turn.of_below h5 _⟩
/-- Where the document's view and store lie. -/
structure RLay where
  q : Nat
  d : Nat
  s : Nat
  r : Nat
  m : Nat
def inR (f : Int → Int → Option Value) (p : Int) : Option Value := if 0 ≤ p ∧ p < 55 then f (keyP p).1 (keyP p).2 else none
def wrV (st : VSt) : Int → Int → Option Value := fun k n => (st.wr k n).map fun x => .agg x.cells
/-- The document's view and its store in memory. -/
structure RViewAt (W : World) (L : RLay) (st : VSt) : Prop where
  cq : blk W L.q = some (.cells #[.pointer (some ⟨L.d, 0, none⟩), .map (some L.r), .map (some L.m)] 87 (0, 0))
  sa : RStoreAt W L.d L.s st.base
  cr : ∃ es clk, blk W L.r = some (.map es clk) ∧ KI es clk (inR st.rd)
  cm : ∃ es clk, blk W L.m = some (.map es clk) ∧ KI es clk (inR (wrV st))
  ne : L.r ≠ L.m ∧ L.s ≠ L.r ∧ L.s ≠ L.m
theorem RViewAt.keep {S : Nat → Prop} {W W' : World} {L : RLay} {st : VSt} (h : RViewAt W L st) (hT : Turn S W W') (hS : ∀ i, S i → i ≠ L.q ∧ i ≠ L.d ∧ i ≠ L.s ∧ i ≠ L.r ∧ i ≠ L.m) : RViewAt W' L st := by
  obtain ⟨e1, c1, h1, k1⟩ := h.cr
  obtain ⟨e2, c2, h2, k2⟩ := h.cm
  have H := fun b (hb : b = L.q ∨ b = L.d ∨ b = L.s ∨ b = L.r ∨ b = L.m) (hs : S b) => by have := hS b hs; omega
  exact ⟨blk_of_turn hT h.cq (fun s => (hS _ s).1 rfl), h.sa.keep hT (fun s => (hS _ s).2.1 rfl) (fun s => (hS _ s).2.2.1 rfl), ⟨e1, c1, blk_of_turn hT h1 (fun s => (hS _ s).2.2.2.1 rfl), k1⟩, ⟨e2, c2, blk_of_turn hT h2 (fun s => (hS _ s).2.2.2.2 rfl), k2⟩, h.ne⟩
theorem RViewAt.below {W W' : World} {L : RLay} {st : VSt} (h : RViewAt W L st) (hb : Below W.heap.size W W') : RViewAt W' L st := h.keep (Turn.of_below hb (fun _ => False)) (fun i q => q.elim)
theorem inR_at (f : Int → Int → Option Value) (k n : Int) (h : 0 ≤ placeI k n) : inR f (placeI k n) = f k n := by
  unfold inR
  rw [if_pos ⟨h, k_place_lt _ _ h⟩, keyP_place k n h]
theorem inR_upd (f : Int → Int → Option Value) (k n : Int) (v : Value) (h : 0 ≤ placeI k n) : inR (updK f k n v) = updI (inR f) (placeI k n) v := by
  have hl := k_place_lt k n h
  funext p
  unfold inR updK updI
  dsimp only
  by_cases e : p = placeI k n
  · subst e
    rw [if_pos rfl, if_pos ⟨h, hl⟩, keyP_place k n h, if_pos ⟨rfl, rfl⟩]
  · rw [if_neg e]
    by_cases q : 0 ≤ p ∧ p < 55
    · rw [if_pos q, if_pos q, if_neg]
      rintro ⟨e1, e2⟩
      obtain ⟨i, rfl⟩ := Int.eq_ofNat_of_zero_le q.1
      have := place_keyP i (by omega)
      rw [e1, e2] at this
      exact e this.symm
    · rw [if_neg q, if_neg q]
theorem wrV_put (st : VSt) (k n : Int) (x : Val) (h : 0 ≤ placeI k n) : wrV (st.put k n x) = updK (wrV st) k n (.agg x.cells) := by
  unfold VSt.put
  rw [if_neg (show ¬ placeI k n < 0 by omega)]
  exact updV_km st.wr k n x
theorem rd_saw (st : VSt) (k n : Int) (h : 0 ≤ placeI k n) : (st.saw k n).rd = updK st.rd k n (.bool true) := by
  unfold VSt.saw
  rw [if_neg (show ¬ placeI k n < 0 by omega)]; rfl
set_option maxRecDepth 100000 in
set_option maxHeartbeats 1000000 in
theorem rvput_yes (L : RLay) (st : VSt) (k n : Int) (x : Val) (hk : k ≤ 9223372036854775807) (hpp : 0 ≤ placeI k n) (w : World) (hV : RViewAt w L st) :
    Calls Try.prog 46 #[.pointer (some ⟨L.q, 0, none⟩), keyV k n, .agg x.cells] w fun e w' => (∃ v, e = .returned v) ∧ RViewAt w' L (st.put k n x) ∧ Turn (· = L.m) w w' := by
  obtain ⟨es, clk, hm, hki⟩ := hV.cm
  have hd := cell_of_row w L.q 2 _ _ _ hV.cq
  simp only [List.getElem?_toArray, List.getElem?_cons_succ, List.getElem?_cons_zero] at hd
  have hpl := fun W => rplace_any k n hk W
  have HP := Lib.hid hpl
  obtain ⟨es', clk', hk', hput⟩ := run_putI (r := L.m) Try.underlying85 hki (placeI k n) (place_wfI k n) (.agg x.cells)
  rw [← inR_upd _ _ _ _ hpp, ← wrV_put st k n x hpp] at hk'
  have HPut := Lib.hid hput
  clear hpl hput
  have hq := cells_ne_map hV.cq hm
  have hdm := cells_ne_map hV.sa.cd hm
  have hlq := lt_of_heap hV.cq
  have hlm := lt_of_heap hm
  have HX : ∀ W', Turn (· = L.m) w W' → blk W' L.m = some (.map es' clk') → RViewAt W' L (st.put k n x) := fun W' ht hb => by
    obtain ⟨e1, c1, h1, k1⟩ := hV.cr
    have hrd : (st.put k n x).rd = st.rd := by unfold VSt.put; split <;> rfl
    have hbs : (st.put k n x).base = st.base := by unfold VSt.put; split <;> rfl
    exact ⟨blk_of_turn ht hV.cq hq, by rw [hbs]; exact hV.sa.keep ht hdm hV.ne.2.2, ⟨e1, c1, blk_of_turn ht h1 hV.ne.1, by rw [hrd]; exact k1⟩, ⟨es', clk', hb, hk'⟩, hV.ne⟩
  have HXh := Lib.hid HX
  clear HX hV hki hk'
  have hdec : decide (0 ≤ placeI k n) = true := decide_eq_true hpp
  generalize st.put k n x = X at *
  generalize placeI k n = P at *
  go_enter Try.func46, Try.ntmps46
  go_wp2_with fail
  refine (HP.out _).mono ?_; rintro e w1 ⟨rfl, hb⟩
  obtain ⟨k0, h2, h3, h4, h5⟩ := after2 hb
  have m1 := (h3 L.m hlm).trans hm
  have c1 := (h5.cell (show (⟨L.q, 2, none⟩ : Addr).block < w.heap.size from hlq)).trans hd
  clear hb h3 hm hd
  go_upto_region 3 with fail
  have S0 : (fun W => W.cell? ⟨L.q, 2, none⟩ = some (.map (some L.m)) ∧ blk W (w.heap.size + 1) = some (.cells x.cells 47 (0, 0))) w1.drew := ⟨c1, h2⟩
  refine wp_region_held_drew (S := fun W => W.cell? ⟨L.q, 2, none⟩ = some (.map (some L.m)) ∧ blk W (w.heap.size + 1) = some (.cells x.cells 47 (0, 0))) (by kernel_rfl) S0 (fun hHeld => ?_)
  refine reg_take (i := 0) (v := ?_) rfl rfl (by kernel_rfl) (by kernel_rfl) (by kernel_rfl) (fun _ _ _ h => h) (by assumption) (by rfl) ?_ ?_
  rotate_left 1
  · (intro w hSw; (try dsimp only at hSw); go_simp; try with_reducible rfl)
  try simp only [List.setIfInBounds_toArray, List.set_cons_zero, List.set_cons_succ]
  refine reg_take (i := 1) (v := ?_) rfl rfl (by kernel_rfl) (by kernel_rfl) (by kernel_rfl) (fun _ _ _ h => h) (by assumption) (by rfl) ?_ ?_
  rotate_left 1
  · (intro w hSw; (try dsimp only at hSw); go_simp; try with_reducible rfl)
  try simp only [List.setIfInBounds_toArray, List.set_cons_zero, List.set_cons_succ]
  refine reg_take (i := 2) (v := ?_) rfl rfl (by kernel_rfl) (by kernel_rfl) (by kernel_rfl) (fun _ _ _ h => h) (by assumption) (by rfl) ?_ ?_
  rotate_left 1
  · (intro w hSw; (try dsimp only at hSw); go_simp; try with_reducible rfl)
  try simp only [List.setIfInBounds_toArray, List.set_cons_zero, List.set_cons_succ]
  refine reg_take (i := 3) (v := ?_) rfl rfl (by kernel_rfl) (by kernel_rfl) (by kernel_rfl) (fun _ _ _ h => h) (by assumption) (by rfl) ?_ ?_
  rotate_left 1
  · (intro w hSw; (try dsimp only at hSw); go_simp; try with_reducible rfl)
  try simp only [List.setIfInBounds_toArray, List.set_cons_zero, List.set_cons_succ]
  refine reg_take (i := 4) (v := ?_) rfl rfl (by kernel_rfl) (by kernel_rfl) (by kernel_rfl) (fun _ _ _ h => h) (by assumption) (by rfl) ?_ ?_
  rotate_left 1
  · (intro w hSw; (try dsimp only at hSw); go_simp; try with_reducible rfl)
  try simp only [List.setIfInBounds_toArray, List.set_cons_zero, List.set_cons_succ]
  refine reg_take (i := 5) (v := .agg x.cells) rfl rfl (by kernel_rfl) (by kernel_rfl) (by kernel_rfl) (fun _ _ _ h => h) (by assumption) (by rfl) (fun w hS => loadV_blk hS.2) ?_
  try simp only [List.setIfInBounds_toArray, List.set_cons_zero, List.set_cons_succ]
  have hput := HPut.out w1.drew m1
  have hlt5 := lt_of_heap m1
  have s6 : (fun W => W.cell? ⟨L.q, 2, none⟩ = some (.map (some L.m)) ∧ blk W (w.heap.size + 1) = some (.cells x.cells 47 (0, 0))) (setB w1.drew L.m (.map es' clk')) := by
    refine ⟨?_, ?_⟩
    · rw [setB_cell _ _ _ _ _ hq]; exact c1
    · rw [blk_setB_other _ _ _ _ (by omega)]; exact h2
  refine reg_step (i := 6) (by kernel_rfl) rfl (by rfl) (fun KC hKC => ?_)
  go_simp
  refine hKC.out _ _ ?_ (fun hHeld => ?_)
  · exact s6
  refine wpAnyH_done (by kernel_rfl) ?_ _
  have ht : Turn (· = L.m) w (setB w1.drew L.m (.map es' clk')) := ((Turn.of_below h5 (· = L.m)).drew).setB (b := L.m) (Or.inl (show L.m = L.m from rfl)) _
  have hR := HXh.out _ ht (blk_setB_same _ _ _ hlt5)
  clear hKC KC s6 hput m1 HXh HPut c1 h2 hHeld S0 k0
  go_wp2_with fail
  go_end0
  exact ⟨⟨_, rfl⟩, hR, ht⟩
end Go.Proofs.Ytfcgkjbifnhjjaa.St
