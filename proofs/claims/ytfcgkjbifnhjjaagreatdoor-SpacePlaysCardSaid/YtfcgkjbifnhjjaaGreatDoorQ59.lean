/- The document's own store and view in memory, as plain states; the contracts of their Get and Put. The contract of the document's own View.Get. The document's own store and view, made anew; its lists of keys. The document's own Reads, Foot, Redo. The document's own Redo. The contracts of cloisterkeep.New of no writes, and of Two.Look: a store and a view that hold nothing. No condition but those written in each statement. -/
import Derived.Test.YtfcgkjbifnhjjaaGreatDoorQ58
import Derived.Test.YtfcgkjbifnhjjaaGreatDoorMapIQ
import Derived.Test.YtfcgkjbifnhjjaaGreatDoorWriQ
import Derived.Test.YtfcgkjbifnhjjaaGreatDoorQ55
import Derived.Deep.Cut
import Derived.Test.YtfcgkjbifnhjjaaGreatDoorVwBQ
import Derived.Test.YtfcgkjbifnhjjaaGreatDoorQ52
import Derived.Deep.RegionWith
namespace Go.Proofs.YtfcgkjbifnhjjaaGreatDoor.St
open Go.RowKit
set_option linter.unusedVariables false

/-- The document's store in memory. -/
structure RStoreAt (W : World) (d r : Nat) (base : Nat → Val) : Prop where
  cd : blk W d = some (.cells #[.map (some r)] 112 (0, 0))
  cm : ∃ es clk f, blk W r = some (.map es clk) ∧ KI es clk f ∧ (∀ p v, f p = some v → 0 ≤ p ∧ p < 55) ∧ ∀ p : Nat, p < 55 → (f p).getD (.agg Val.zero.cells) = .agg (base p).cells
theorem RStoreAt.keep {S : Nat → Prop} {W W' : World} {d r : Nat} {base : Nat → Val} (h : RStoreAt W d r base) (hT : Turn S W W') (hd : ¬ S d) (hr : ¬ S r) : RStoreAt W' d r base := by
  obtain ⟨es, clk, f, h1, h2⟩ := h.cm
  exact ⟨blk_of_turn hT h.cd hd, es, clk, f, blk_of_turn hT h1 hr, h2⟩
theorem RStoreAt.below {W W' : World} {d r : Nat} {base : Nat → Val} (h : RStoreAt W d r base) (hb : Below W.heap.size W W') : RStoreAt W' d r base := h.keep (Turn.of_below hb (fun _ => False)) id id
theorem place_ge' (k m : Int) : -1 ≤ placeI k m := by
  have h2 : manyI k ≤ 0 ∨ (1 ≤ k ∧ k ≤ 12) := by
    unfold manyI
    repeat' split
    all_goals omega
  unfold placeI
  split
  · omega
  · rcases h2 with h2 | ⟨h2, h3⟩
    · omega
    · have := ahead_range h2 h3; omega
theorem place_wfI (k m : Int) : wfI (placeI k m) := wfI_of (by have := place_ge' k m; omega) (by
  by_cases h : 0 ≤ placeI k m
  · have := k_place_lt _ _ h; omega
  · omega)
theorem RStoreAt.look {f : Int → Option Value} {base : Nat → Val} (h1 : ∀ p v, f p = some v → 0 ≤ p ∧ p < 55) (h2 : ∀ p : Nat, p < 55 → (f p).getD (.agg Val.zero.cells) = .agg (base p).cells) (k n : Int) : (f (placeI k n)).getD (.agg Val.zero.cells) = .agg (storeLook base k n).cells := by
  unfold storeLook
  by_cases h : placeI k n < 0
  · rw [if_pos h]
    cases hf : f (placeI k n) with
    | none => rfl
    | some v => have := h1 _ _ hf; omega
  · have := k_place_lt k n (by omega)
    rw [if_neg h, ← h2 _ (by omega)]
    congr 2
    omega
theorem cell_setRow_far (W : World) (g b i : Nat) (cs : Array Value) (h : b ≠ g) : (W.setRow g cs).cell? ⟨b, i, none⟩ = W.cell? ⟨b, i, none⟩ := by
  simp only [World.cell?, setRow_other W g b cs h]
theorem loadV_blk {W : World} {b : Nat} {x : Val} {t : TypeId} {fz : Nat × Nat} (h : blk W b = some (.cells x.cells t fz)) : (loadV (.pointer (some ⟨b, 0, none⟩))).run Tryz.prog W = .ok (.value (.agg x.cells)) W := by
  rw [run_loadV, h]; exact loadOr_cells _ _ _ _ _ (cells_size x)
theorem run_op_look {T : TypeId} {m k : Value} {ok : Bool} {ρ : Operand → Value} {x y : Operand} {dst : Option Tmp} {ty : TypeId} {pos : String} {after : Array Edge} {guard : Option (Nat × Bool)} {w : World} {v : Value} (hx : ρ x = m) (hy : ρ y = k) (h : (Instr.lookup T m k ok).run Tryz.prog w = .ok v w) :
    (execOp ρ { dst, op := .lookup T x y ok, type := ty, pos, after, guard }).run Tryz.prog w = .ok (.value v) w := by
  simp [execOp, hx, hy, h]
theorem cells_two {W W' : World} {K : Nat} {A C : Int} (h : W.cell? ⟨K, 0, none⟩ = some (.int .i64 A) ∧ W.cell? ⟨K, 1, none⟩ = some (.int .i64 C)) (hb : Below W.heap.size W W') : W'.cell? ⟨K, 0, none⟩ = some (.int .i64 A) ∧ W'.cell? ⟨K, 1, none⟩ = some (.int .i64 C) :=
  ⟨(hb.cell (cell_block_lt h.1)).trans h.1, (hb.cell (cell_block_lt h.2)).trans h.2⟩

attribute [local go_sem] blk_alloc_at blk_alloc_past blk_drew blk_drewN blk_setB_same blk_setB_other blk_setRow_other setRow_alloc_at setRow_alloc_past setRow_drewN setRow_drew setB_size setB_cell setB_frozen setB_alloc_past setB_drewN setB_drew run_loadV loadOr_cells run_storeV storeOr_cells cells_size ones_cells
attribute [local go_sem ↓] execOp_loadV execOp_storeV
attribute [local go_sem ↓] wp_at0 wp_at1 wp_at2 wp_at3 wp_at4 wp_at5 wp_at6 wp_at7
attribute [local irreducible] Int.lt Int.le
set_option maxRecDepth 100000 in
set_option maxHeartbeats 1000000 in
theorem rget_any (d r : Nat) (base : Nat → Val) (k n : Int) (hk : k ≤ 9223372036854775807) (w : World) (hR : RStoreAt w d r base) :
    Calls Tryz.prog 51 #[.pointer (some ⟨d, 0, none⟩), keyV k n] w fun e w' => e = .returned (.agg (storeLook base k n).cells) ∧ Below w.heap.size w w' := by
  obtain ⟨es, clk, f, hm, hki, hf1, hf2⟩ := hR.cm
  have hd := cell_of_row w d 0 _ _ _ hR.cd
  simp only [List.getElem?_toArray, List.getElem?_cons_zero] at hd
  have hlook := RStoreAt.look hf1 hf2 k n
  have hpl := fun W => rplace_any k n hk W
  have HL := Lib.hid hlook
  have HP := Lib.hid hpl
  have hz := zero_val
  clear hf1 hf2 hlook hpl
  generalize storeLook base k n = X at *
  have hld := lt_of_heap hR.cd
  have hlr := lt_of_heap hm
  go_enter Tryz.func51, Tryz.ntmps51
  go_wp2_with fail
  obtain ⟨W0, hW0⟩ : ∃ W0, (w.alloc (Obj.cells #[Value.int IntKind.i64 k, Value.int IntKind.i64 n] 57)).alloc (Obj.cells Val.zero.cells 60) = W0 := ⟨_, rfl⟩
  have b0 : Below w.heap.size w W0 := by rw [← hW0]; exact ((Below.refl _ _).alloc (Nat.le_refl _) _).alloc (by simp) _
  have kb : blk W0 w.heap.size = some (.cells #[.int .i64 k, .int .i64 n] 57 (0, 0)) := by rw [← hW0]; exact heap_alloc2_old _ _ _
  have rb : blk W0 (w.heap.size + 1) = some (.cells Val.zero.cells 60 (0, 0)) := by rw [← hW0]; exact heap_alloc2_new _ _ _
  have hsz : W0.heap.size = w.heap.size + 2 := by rw [← hW0]; simp
  rw [hW0]
  clear hW0
  have S0 : (fun W => W.cell? ⟨d, 0, none⟩ = some (.map (some r)) ∧ (W.cell? ⟨w.heap.size, 0, none⟩ = some (.int .i64 k) ∧ W.cell? ⟨w.heap.size, 1, none⟩ = some (.int .i64 n))) W0.drew :=
    ⟨(b0.cell (show (⟨d, 0, none⟩ : Addr).block < w.heap.size from hld)).trans hd, cell_of_row _ _ 0 _ _ _ kb, cell_of_row _ _ 1 _ _ _ kb⟩
  refine wp_region_held_drew (S := fun W => W.cell? ⟨d, 0, none⟩ = some (.map (some r)) ∧ (W.cell? ⟨w.heap.size, 0, none⟩ = some (.int .i64 k) ∧ W.cell? ⟨w.heap.size, 1, none⟩ = some (.int .i64 n))) (by kernel_rfl) S0 (fun hHeld => ?_)
  clear S0
  refine reg_take (i := 0) (v := ?_) rfl rfl (by kernel_rfl) (by kernel_rfl) (by kernel_rfl) (fun _ _ _ h => h) (by assumption) (by rfl) ?_ ?_
  rotate_left 1
  · (intro w hSw; (try dsimp only at hSw); go_simp; try with_reducible rfl)
  try simp only [List.setIfInBounds_toArray, List.set_cons_zero, List.set_cons_succ]
  refine reg_take (i := 1) (v := ?_) rfl rfl (by kernel_rfl) (by kernel_rfl) (by kernel_rfl) (fun _ _ _ h => h) (by assumption) (by rfl) ?_ ?_
  rotate_left 1
  · (intro w hSw; (try dsimp only at hSw); go_simp; try with_reducible rfl)
  try simp only [List.setIfInBounds_toArray, List.set_cons_zero, List.set_cons_succ]
  refine reg_take (i := 2) (v := ?_) rfl rfl (by kernel_rfl) (by kernel_rfl) (by kernel_rfl) (fun _ _ _ h => h) (by assumption) (by rfl) ?_ ?_
  rotate_left 1
  · (intro w hSw; (try dsimp only at hSw); go_simp; try with_reducible rfl)
  try simp only [List.setIfInBounds_toArray, List.set_cons_zero, List.set_cons_succ]
  refine reg_take (i := 3) (v := ?_) rfl rfl (by kernel_rfl) (by kernel_rfl) (by kernel_rfl) (fun _ _ _ h => h) (by assumption) (by rfl) ?_ ?_
  rotate_left 1
  · (intro w hSw; (try dsimp only at hSw); go_simp; try with_reducible rfl)
  try simp only [List.setIfInBounds_toArray, List.set_cons_zero, List.set_cons_succ]
  refine reg_take (i := 4) (v := ?_) rfl rfl (by kernel_rfl) (by kernel_rfl) (by kernel_rfl) (fun _ _ _ h => h) (by assumption) (by rfl) ?_ ?_
  rotate_left 1
  · (intro w hSw; (try dsimp only at hSw); go_simp; try with_reducible rfl)
  try simp only [List.setIfInBounds_toArray, List.set_cons_zero, List.set_cons_succ]
  refine reg_step (i := 5) (by kernel_rfl) rfl (by rfl) (fun KC hKC => ?_)
  go_simp
  refine (HP.out _).mono ?_; rintro e w5 ⟨rfl, t5⟩
  have t5' : Below W0.heap.size W0 w5 := (below_drewN (Below.refl _ W0) 1).trans t5
  have s5 : w5.cell? ⟨d, 0, none⟩ = some (.map (some r)) ∧ (w5.cell? ⟨w.heap.size, 0, none⟩ = some (.int .i64 k) ∧ w5.cell? ⟨w.heap.size, 1, none⟩ = some (.int .i64 n)) := ⟨(t5.cell (cell_block_lt hHeld.1)).trans hHeld.1, cells_two hHeld.2 t5⟩
  have b5 := b0.trans (t5'.mono (by omega))
  have m5 : blk w5 r = some (.map es clk) := (b5.block r hlr).trans hm
  have r5 : blk w5 (w.heap.size + 1) = some (.cells Val.zero.cells 60 (0, 0)) := (t5'.block _ (by omega)).trans rb
  have hlk := (run_lookI Tryz.underlying110 hki (placeI k n) (place_wfI k n) w5 m5 (hz w5)).2
  rw [HL.out] at hlk
  clear t5 t5' hHeld rb kb b0 hm
  refine hKC.out _ _ ?_ (fun hHeld => ?_)
  · exact s5
  clear hKC KC
  refine reg_run (i := 6) (v := .agg X.cells) (w' := w5) (by kernel_rfl) rfl rfl (by rfl) (run_op_look rfl rfl hlk) s5 (fun hHeld => ?_)
  try simp only [List.setIfInBounds_toArray, List.set_cons_zero, List.set_cons_succ]
  clear hlk
  have s6 : (fun W => W.cell? ⟨d, 0, none⟩ = some (.map (some r)) ∧ (W.cell? ⟨w.heap.size, 0, none⟩ = some (.int .i64 k) ∧ W.cell? ⟨w.heap.size, 1, none⟩ = some (.int .i64 n))) (w5.setRow (w.heap.size + 1) X.cells) := by
    refine ⟨?_, ?_, ?_⟩
    · rw [cell_setRow_far _ _ _ _ _ (by omega)]; exact s5.1
    · rw [cell_setRow_far _ _ _ _ _ (by omega)]; exact s5.2.1
    · rw [cell_setRow_far _ _ _ _ _ (by omega)]; exact s5.2.2
  refine reg_step (i := 7) (by kernel_rfl) rfl (by rfl) (fun KC hKC => ?_)
  go_simp
  refine hKC.out _ _ ?_ (fun hHeld => ?_)
  · exact s6
  refine wpAnyH_done (by kernel_rfl) ?_ _
  go_wp2_with fail
  exact bodyPost_val (b := w.heap.size + 1) rfl rfl rfl (setRow_heap _ _ _ _ _ _ r5) (cells_size _) ⟨rfl, below_setRow b5 (by omega) _⟩

theorem RStoreAt.upd {f : Int → Option Value} {base : Nat → Val} (h1 : ∀ p v, f p = some v → 0 ≤ p ∧ p < 55) (h2 : ∀ p : Nat, p < 55 → (f p).getD (.agg Val.zero.cells) = .agg (base p).cells) (k n : Int) (x : Val) (hp : 0 ≤ placeI k n) :
    (∀ p v, updI f (placeI k n) (.agg x.cells) p = some v → 0 ≤ p ∧ p < 55) ∧ ∀ p : Nat, p < 55 → (updI f (placeI k n) (.agg x.cells) p).getD (.agg Val.zero.cells) = .agg (storePut base k n x p).cells := by
  have hl := k_place_lt k n hp
  constructor
  · intro p v hv
    unfold updI at hv
    split at hv
    · rename_i e; subst e; exact ⟨hp, hl⟩
    · exact h1 p v hv
  · intro p hp5
    unfold updI storePut
    rw [if_neg (show ¬ placeI k n < 0 by omega)]
    unfold updB
    by_cases e : (p : Int) = placeI k n
    · rw [if_pos e, if_pos (by omega)]; rfl
    · rw [if_neg e, if_neg (by omega)]; exact h2 p hp5
theorem run_putI {T r : Nat} {es : Array MapEntry} {clk : Nat} {f : Int → Option Value} {E : Nat} (hT : Tryz.prog.underlying T = some (.map 3 E)) (h : KI es clk f) (p : Int) (hp : wfI p) (v : Value) :
    ∃ es' clk', KI es' clk' (updI f p v) ∧ ∀ W : World, blk W r = some (.map es clk) → (Instr.mapUpdate T (.map (some r)) (.int .i64 p) v).run Tryz.prog W = .ok () (setB W r (.map es' clk')) := by
  obtain ⟨es', clk', h1, h2⟩ := run_updI (r := r) hT h p hp v
  exact ⟨es', clk', h1, fun W hb => h2 W hb⟩
set_option maxRecDepth 100000 in
set_option maxHeartbeats 1000000 in
theorem rput_yes (d r : Nat) (base : Nat → Val) (k n : Int) (x : Val) (hk : k ≤ 9223372036854775807) (hpp : 0 ≤ placeI k n) (w : World) (hR : RStoreAt w d r base) :
    Calls Tryz.prog 27 #[.pointer (some ⟨d, 0, none⟩), keyV k n, .agg x.cells] w fun e w' => e = .returned (.bool true) ∧ RStoreAt w' d r (storePut base k n x) ∧ Turn (· = r) w w' := by
  obtain ⟨es, clk, f, hm, hki, hf1, hf2⟩ := hR.cm
  have hd := cell_of_row w d 0 _ _ _ hR.cd
  simp only [List.getElem?_toArray, List.getElem?_cons_zero] at hd
  have hpl := fun W => rplace_any k n hk W
  have HP := Lib.hid hpl
  have HU := Lib.hid (RStoreAt.upd hf1 hf2 k n x hpp)
  obtain ⟨es', clk', hk', hput⟩ := run_putI (r := r) Tryz.underlying110 hki (placeI k n) (place_wfI k n) (.agg x.cells)
  have HPut := Lib.hid hput
  have hrd : d ≠ r := cells_ne_map hR.cd hm
  clear hf1 hf2 hpl hput
  have hld := lt_of_heap hR.cd
  have hlr := lt_of_heap hm
  have hcd := hR.cd
  clear hR
  have HX : ∀ W', Turn (· = r) w W' → blk W' r = some (.map es' clk') → RStoreAt W' d r (storePut base k n x) := fun W' ht hb => ⟨blk_of_turn ht hcd hrd, es', clk', _, hb, hk', HU.out⟩
  have HXh := Lib.hid HX
  clear HX HU
  generalize storePut base k n x = X at *
  generalize placeI k n = P at *
  go_enter Tryz.func27, Tryz.ntmps27
  go_wp2_with fail
  refine (HP.out _).mono ?_; rintro e w1 ⟨rfl, hb⟩
  obtain ⟨k0, h2, h3, h4, h5⟩ := after2 hb
  have m1 := (h3 r hlr).trans hm
  have c1 := (h5.cell (show (⟨d, 0, none⟩ : Addr).block < w.heap.size from hld)).trans hd
  clear hb h3 hm hd
  go_upto_region 3 with fail
  have S0 : (fun W => W.cell? ⟨d, 0, none⟩ = some (.map (some r)) ∧ (W.cell? ⟨w.heap.size, 0, none⟩ = some (.int .i64 k) ∧ W.cell? ⟨w.heap.size, 1, none⟩ = some (.int .i64 n)) ∧ blk W (w.heap.size + 1) = some (.cells x.cells 60 (0, 0))) w1.drew :=
    ⟨c1, ⟨cell_of_row _ _ 0 _ _ _ k0, cell_of_row _ _ 1 _ _ _ k0⟩, h2⟩
  refine wp_region_held_drew (S := fun W => W.cell? ⟨d, 0, none⟩ = some (.map (some r)) ∧ (W.cell? ⟨w.heap.size, 0, none⟩ = some (.int .i64 k) ∧ W.cell? ⟨w.heap.size, 1, none⟩ = some (.int .i64 n)) ∧ blk W (w.heap.size + 1) = some (.cells x.cells 60 (0, 0))) (by kernel_rfl) S0 (fun hHeld => ?_)
  clear S0 c1
  refine reg_take (i := 0) (v := ?_) rfl rfl (by kernel_rfl) (by kernel_rfl) (by kernel_rfl) (fun _ _ _ h => h) (by assumption) (by rfl) ?_ ?_
  rotate_left 1
  · (intro w hSw; (try dsimp only at hSw); go_simp; try with_reducible rfl)
  try simp only [List.setIfInBounds_toArray, List.set_cons_zero, List.set_cons_succ]
  refine reg_take (i := 1) (v := ?_) rfl rfl (by kernel_rfl) (by kernel_rfl) (by kernel_rfl) (fun _ _ _ h => h) (by assumption) (by rfl) ?_ ?_
  rotate_left 1
  · (intro w hSw; (try dsimp only at hSw); go_simp; try with_reducible rfl)
  try simp only [List.setIfInBounds_toArray, List.set_cons_zero, List.set_cons_succ]
  refine reg_take (i := 2) (v := ?_) rfl rfl (by kernel_rfl) (by kernel_rfl) (by kernel_rfl) (fun _ _ _ h => h) (by assumption) (by rfl) ?_ ?_
  rotate_left 1
  · (intro w hSw; (try dsimp only at hSw); go_simp; try with_reducible rfl)
  try simp only [List.setIfInBounds_toArray, List.set_cons_zero, List.set_cons_succ]
  refine reg_take (i := 3) (v := ?_) rfl rfl (by kernel_rfl) (by kernel_rfl) (by kernel_rfl) (fun _ _ _ h => h) (by assumption) (by rfl) ?_ ?_
  rotate_left 1
  · (intro w hSw; (try dsimp only at hSw); go_simp; try with_reducible rfl)
  try simp only [List.setIfInBounds_toArray, List.set_cons_zero, List.set_cons_succ]
  refine reg_take (i := 4) (v := ?_) rfl rfl (by kernel_rfl) (by kernel_rfl) (by kernel_rfl) (fun _ _ _ h => h) (by assumption) (by rfl) ?_ ?_
  rotate_left 1
  · (intro w hSw; (try dsimp only at hSw); go_simp; try with_reducible rfl)
  try simp only [List.setIfInBounds_toArray, List.set_cons_zero, List.set_cons_succ]
  refine reg_take (i := 6) (v := .agg x.cells) rfl rfl (by kernel_rfl) (by kernel_rfl) (by kernel_rfl) (fun _ _ _ h => h) (by assumption) (by rfl) (fun w hS => loadV_blk hS.2.2) ?_
  try simp only [List.setIfInBounds_toArray, List.set_cons_zero, List.set_cons_succ]
  refine reg_step (i := 5) (by kernel_rfl) rfl (by rfl) (fun KC hKC => ?_)
  go_simp
  refine (HP.out _).mono ?_; rintro e w5 ⟨rfl, t5⟩
  have t5' : Below w1.heap.size w1 w5 := (below_drewN (Below.refl _ w1) 1).trans t5
  have s5 : w5.cell? ⟨d, 0, none⟩ = some (.map (some r)) ∧ (w5.cell? ⟨w.heap.size, 0, none⟩ = some (.int .i64 k) ∧ w5.cell? ⟨w.heap.size, 1, none⟩ = some (.int .i64 n)) ∧ blk w5 (w.heap.size + 1) = some (.cells x.cells 60 (0, 0)) := ⟨(t5.cell (cell_block_lt hHeld.1)).trans hHeld.1, cells_two hHeld.2.1 t5, (t5.block _ (lt_of_heap hHeld.2.2)).trans hHeld.2.2⟩
  have b5 := h5.trans (t5'.mono h5.size)
  have m5 : blk w5 r = some (.map es clk) := (t5'.block r (lt_of_heap m1)).trans m1
  clear t5 t5' hHeld m1 h5 h2 k0
  refine hKC.out _ _ ?_ (fun hHeld => ?_)
  · exact s5
  clear hKC KC
  have hput := HPut.out w5 m5
  have hlt5 := lt_of_heap m5
  have s6 : (fun W => W.cell? ⟨d, 0, none⟩ = some (.map (some r)) ∧ (W.cell? ⟨w.heap.size, 0, none⟩ = some (.int .i64 k) ∧ W.cell? ⟨w.heap.size, 1, none⟩ = some (.int .i64 n)) ∧ blk W (w.heap.size + 1) = some (.cells x.cells 60 (0, 0))) (setB w5 r (.map es' clk')) := by
    refine ⟨?_, ⟨?_, ?_⟩, ?_⟩
    · rw [setB_cell _ _ _ _ _ hrd]; exact s5.1
    · rw [setB_cell _ _ _ _ _ (by omega)]; exact s5.2.1.1
    · rw [setB_cell _ _ _ _ _ (by omega)]; exact s5.2.1.2
    · rw [blk_setB_other _ _ _ _ (by omega)]; exact s5.2.2
  refine reg_step (i := 7) (by kernel_rfl) rfl (by rfl) (fun KC hKC => ?_)
  go_simp
  refine hKC.out _ _ ?_ (fun hHeld => ?_)
  · exact s6
  refine wpAnyH_done (by kernel_rfl) ?_ _
  have ht : Turn (· = r) w (setB w5 r (.map es' clk')) := (Turn.of_below b5 (· = r)).setB (b := r) (Or.inl (show r = r from rfl)) _
  have hR := HXh.out _ ht (blk_setB_same _ _ _ hlt5)
  clear hKC KC s5 s6 hput m5 b5 HXh HPut
  go_wp2_with fail
  go_ret
  exact ⟨rfl, hR, ht⟩
theorem rput_any (d r : Nat) (base : Nat → Val) (k n : Int) (x : Val) (hk : k ≤ 9223372036854775807) (w : World) (hR : RStoreAt w d r base) :
    Calls Tryz.prog 27 #[.pointer (some ⟨d, 0, none⟩), keyV k n, .agg x.cells] w fun e w' => e = .returned (.bool (decide (0 ≤ placeI k n))) ∧ RStoreAt w' d r (storePut base k n x) ∧ Turn (· = r) w w' := by
  by_cases hpp : 0 ≤ placeI k n
  · rw [decide_eq_true hpp]; exact rput_yes d r base k n x hk hpp w hR
  · have hld := lt_of_heap hR.cd
    have hs : storePut base k n x = base := by unfold storePut; rw [if_pos (by omega)]
    rw [decide_eq_false hpp, hs]
    have hpl := fun W => rplace_any k n hk W
    have HP := Lib.hid hpl
    clear hpl
    have hd : decide (placeI k n < 0) = true := decide_eq_true (by omega)
    generalize placeI k n = P at *
    go_enter Tryz.func27, Tryz.ntmps27
    go_wp2_with fail
    refine (HP.out _).mono ?_; rintro e w1 ⟨rfl, hb⟩
    obtain ⟨_, h2, h3, h4, h5⟩ := after2 hb
    have S1 := hR.below h5
    clear hb h3 hR
    go_wp2_with fail
    go_ret
    exact ⟨rfl, S1, Turn.of_below h5 _⟩
/-- Where the document's view and store lie. -/
structure RLay where
  q : Nat
  d : Nat
  s : Nat
  r : Nat
  m : Nat
def inR (f : Int → Int → Option Value) (p : Int) : Option Value := if 0 ≤ p ∧ p < 55 then f (keyP p).1 (keyP p).2 else none
def wrV (st : VSt) : Int → Int → Option Value := fun k n => (st.wr k n).map fun x => .agg x.cells
/-- The document's view and its store in memory. -/
structure RViewAt (W : World) (L : RLay) (st : VSt) : Prop where
  cq : blk W L.q = some (.cells #[.pointer (some ⟨L.d, 0, none⟩), .map (some L.r), .map (some L.m)] 131 (0, 0))
  sa : RStoreAt W L.d L.s st.base
  cr : ∃ es clk, blk W L.r = some (.map es clk) ∧ KI es clk (inR st.rd)
  cm : ∃ es clk, blk W L.m = some (.map es clk) ∧ KI es clk (inR (wrV st))
  ne : L.r ≠ L.m ∧ L.s ≠ L.r ∧ L.s ≠ L.m
theorem RViewAt.keep {S : Nat → Prop} {W W' : World} {L : RLay} {st : VSt} (h : RViewAt W L st) (hT : Turn S W W') (hS : ∀ i, S i → i ≠ L.q ∧ i ≠ L.d ∧ i ≠ L.s ∧ i ≠ L.r ∧ i ≠ L.m) : RViewAt W' L st := by
  obtain ⟨e1, c1, h1, k1⟩ := h.cr
  obtain ⟨e2, c2, h2, k2⟩ := h.cm
  have H := fun b (hb : b = L.q ∨ b = L.d ∨ b = L.s ∨ b = L.r ∨ b = L.m) (hs : S b) => by have := hS b hs; omega
  exact ⟨blk_of_turn hT h.cq (fun s => (hS _ s).1 rfl), h.sa.keep hT (fun s => (hS _ s).2.1 rfl) (fun s => (hS _ s).2.2.1 rfl), ⟨e1, c1, blk_of_turn hT h1 (fun s => (hS _ s).2.2.2.1 rfl), k1⟩, ⟨e2, c2, blk_of_turn hT h2 (fun s => (hS _ s).2.2.2.2 rfl), k2⟩, h.ne⟩
theorem RViewAt.below {W W' : World} {L : RLay} {st : VSt} (h : RViewAt W L st) (hb : Below W.heap.size W W') : RViewAt W' L st := h.keep (Turn.of_below hb (fun _ => False)) (fun i q => q.elim)
theorem inR_at (f : Int → Int → Option Value) (k n : Int) (h : 0 ≤ placeI k n) : inR f (placeI k n) = f k n := by
  unfold inR
  rw [if_pos ⟨h, k_place_lt _ _ h⟩, keyP_place k n h]
theorem inR_upd (f : Int → Int → Option Value) (k n : Int) (v : Value) (h : 0 ≤ placeI k n) : inR (updK f k n v) = updI (inR f) (placeI k n) v := by
  have hl := k_place_lt k n h
  funext p
  unfold inR updK updI
  dsimp only
  by_cases e : p = placeI k n
  · subst e
    rw [if_pos rfl, if_pos ⟨h, hl⟩, keyP_place k n h, if_pos ⟨rfl, rfl⟩]
  · rw [if_neg e]
    by_cases q : 0 ≤ p ∧ p < 55
    · rw [if_pos q, if_pos q, if_neg]
      rintro ⟨e1, e2⟩
      obtain ⟨i, rfl⟩ := Int.eq_ofNat_of_zero_le q.1
      have := place_keyP i (by omega)
      rw [e1, e2] at this
      exact e this.symm
    · rw [if_neg q, if_neg q]
theorem wrV_put (st : VSt) (k n : Int) (x : Val) (h : 0 ≤ placeI k n) : wrV (st.put k n x) = updK (wrV st) k n (.agg x.cells) := by
  unfold VSt.put
  rw [if_neg (show ¬ placeI k n < 0 by omega)]
  exact updV_km st.wr k n x
theorem rd_saw (st : VSt) (k n : Int) (h : 0 ≤ placeI k n) : (st.saw k n).rd = updK st.rd k n (.bool true) := by
  unfold VSt.saw
  rw [if_neg (show ¬ placeI k n < 0 by omega)]; rfl
set_option maxRecDepth 100000 in
set_option maxHeartbeats 1000000 in
theorem rvput_yes (L : RLay) (st : VSt) (k n : Int) (x : Val) (hk : k ≤ 9223372036854775807) (hpp : 0 ≤ placeI k n) (w : World) (hV : RViewAt w L st) :
    Calls Tryz.prog 40 #[.pointer (some ⟨L.q, 0, none⟩), keyV k n, .agg x.cells] w fun e w' => (∃ v, e = .returned v) ∧ RViewAt w' L (st.put k n x) ∧ Turn (· = L.m) w w' := by
  obtain ⟨es, clk, hm, hki⟩ := hV.cm
  have hd := cell_of_row w L.q 2 _ _ _ hV.cq
  simp only [List.getElem?_toArray, List.getElem?_cons_succ, List.getElem?_cons_zero] at hd
  have hpl := fun W => rplace_any k n hk W
  have HP := Lib.hid hpl
  obtain ⟨es', clk', hk', hput⟩ := run_putI (r := L.m) Tryz.underlying110 hki (placeI k n) (place_wfI k n) (.agg x.cells)
  rw [← inR_upd _ _ _ _ hpp, ← wrV_put st k n x hpp] at hk'
  have HPut := Lib.hid hput
  clear hpl hput
  have hq := cells_ne_map hV.cq hm
  have hdm := cells_ne_map hV.sa.cd hm
  have hlq := lt_of_heap hV.cq
  have hlm := lt_of_heap hm
  have HX : ∀ W', Turn (· = L.m) w W' → blk W' L.m = some (.map es' clk') → RViewAt W' L (st.put k n x) := fun W' ht hb => by
    obtain ⟨e1, c1, h1, k1⟩ := hV.cr
    have hrd : (st.put k n x).rd = st.rd := by unfold VSt.put; split <;> rfl
    have hbs : (st.put k n x).base = st.base := by unfold VSt.put; split <;> rfl
    exact ⟨blk_of_turn ht hV.cq hq, by rw [hbs]; exact hV.sa.keep ht hdm hV.ne.2.2, ⟨e1, c1, blk_of_turn ht h1 hV.ne.1, by rw [hrd]; exact k1⟩, ⟨es', clk', hb, hk'⟩, hV.ne⟩
  have HXh := Lib.hid HX
  clear HX hV hki hk'
  have hdec : decide (0 ≤ placeI k n) = true := decide_eq_true hpp
  generalize st.put k n x = X at *
  generalize placeI k n = P at *
  go_enter Tryz.func40, Tryz.ntmps40
  go_wp2_with fail
  refine (HP.out _).mono ?_; rintro e w1 ⟨rfl, hb⟩
  obtain ⟨k0, h2, h3, h4, h5⟩ := after2 hb
  have m1 := (h3 L.m hlm).trans hm
  have c1 := (h5.cell (show (⟨L.q, 2, none⟩ : Addr).block < w.heap.size from hlq)).trans hd
  clear hb h3 hm hd
  go_upto_region 3 with fail
  have S0 : (fun W => W.cell? ⟨L.q, 2, none⟩ = some (.map (some L.m)) ∧ blk W (w.heap.size + 1) = some (.cells x.cells 60 (0, 0))) w1.drew := ⟨c1, h2⟩
  refine wp_region_held_drew (S := fun W => W.cell? ⟨L.q, 2, none⟩ = some (.map (some L.m)) ∧ blk W (w.heap.size + 1) = some (.cells x.cells 60 (0, 0))) (by kernel_rfl) S0 (fun hHeld => ?_)
  refine reg_take (i := 0) (v := ?_) rfl rfl (by kernel_rfl) (by kernel_rfl) (by kernel_rfl) (fun _ _ _ h => h) (by assumption) (by rfl) ?_ ?_
  rotate_left 1
  · (intro w hSw; (try dsimp only at hSw); go_simp; try with_reducible rfl)
  try simp only [List.setIfInBounds_toArray, List.set_cons_zero, List.set_cons_succ]
  refine reg_take (i := 1) (v := ?_) rfl rfl (by kernel_rfl) (by kernel_rfl) (by kernel_rfl) (fun _ _ _ h => h) (by assumption) (by rfl) ?_ ?_
  rotate_left 1
  · (intro w hSw; (try dsimp only at hSw); go_simp; try with_reducible rfl)
  try simp only [List.setIfInBounds_toArray, List.set_cons_zero, List.set_cons_succ]
  refine reg_take (i := 2) (v := ?_) rfl rfl (by kernel_rfl) (by kernel_rfl) (by kernel_rfl) (fun _ _ _ h => h) (by assumption) (by rfl) ?_ ?_
  rotate_left 1
  · (intro w hSw; (try dsimp only at hSw); go_simp; try with_reducible rfl)
  try simp only [List.setIfInBounds_toArray, List.set_cons_zero, List.set_cons_succ]
  refine reg_take (i := 3) (v := ?_) rfl rfl (by kernel_rfl) (by kernel_rfl) (by kernel_rfl) (fun _ _ _ h => h) (by assumption) (by rfl) ?_ ?_
  rotate_left 1
  · (intro w hSw; (try dsimp only at hSw); go_simp; try with_reducible rfl)
  try simp only [List.setIfInBounds_toArray, List.set_cons_zero, List.set_cons_succ]
  refine reg_take (i := 4) (v := ?_) rfl rfl (by kernel_rfl) (by kernel_rfl) (by kernel_rfl) (fun _ _ _ h => h) (by assumption) (by rfl) ?_ ?_
  rotate_left 1
  · (intro w hSw; (try dsimp only at hSw); go_simp; try with_reducible rfl)
  try simp only [List.setIfInBounds_toArray, List.set_cons_zero, List.set_cons_succ]
  refine reg_take (i := 5) (v := .agg x.cells) rfl rfl (by kernel_rfl) (by kernel_rfl) (by kernel_rfl) (fun _ _ _ h => h) (by assumption) (by rfl) (fun w hS => loadV_blk hS.2) ?_
  try simp only [List.setIfInBounds_toArray, List.set_cons_zero, List.set_cons_succ]
  have hput := HPut.out w1.drew m1
  have hlt5 := lt_of_heap m1
  have s6 : (fun W => W.cell? ⟨L.q, 2, none⟩ = some (.map (some L.m)) ∧ blk W (w.heap.size + 1) = some (.cells x.cells 60 (0, 0))) (setB w1.drew L.m (.map es' clk')) := by
    refine ⟨?_, ?_⟩
    · rw [setB_cell _ _ _ _ _ hq]; exact c1
    · rw [blk_setB_other _ _ _ _ (by omega)]; exact h2
  refine reg_step (i := 6) (by kernel_rfl) rfl (by rfl) (fun KC hKC => ?_)
  go_simp
  refine hKC.out _ _ ?_ (fun hHeld => ?_)
  · exact s6
  refine wpAnyH_done (by kernel_rfl) ?_ _
  have ht : Turn (· = L.m) w (setB w1.drew L.m (.map es' clk')) := ((Turn.of_below h5 (· = L.m)).drew).setB (b := L.m) (Or.inl (show L.m = L.m from rfl)) _
  have hR := HXh.out _ ht (blk_setB_same _ _ _ hlt5)
  clear hKC KC s6 hput m1 HXh HPut c1 h2 hHeld S0 k0
  go_wp2_with fail
  go_end0
  exact ⟨⟨_, rfl⟩, hR, ht⟩
end Go.Proofs.YtfcgkjbifnhjjaaGreatDoor.St

namespace Go.Proofs.YtfcgkjbifnhjjaaGreatDoor.St
open Go.RowKit
set_option linter.unusedVariables false

attribute [local go_sem] blk_alloc_at blk_alloc_past blk_drew blk_drewN blk_setB_same blk_setB_other blk_setRow_other setRow_alloc_at setRow_alloc_past setRow_drewN setRow_drew setB_size setB_cell setB_frozen setB_alloc_past setB_drewN setB_drew run_loadV loadOr_cells run_storeV storeOr_cells cells_size ones_cells
attribute [local go_sem ↓] execOp_loadV execOp_storeV
attribute [local irreducible] Int.lt Int.le
theorem RViewAt.saw {W W' : World} {L : RLay} {st : VSt} {k n : Int} {es' : Array MapEntry} {clk' : Nat} (hV : RViewAt W L st) (hpp : 0 ≤ placeI k n) (ht : Turn (· = L.r) W W') (hb : blk W' L.r = some (.map es' clk')) (hk : KI es' clk' (updI (inR st.rd) (placeI k n) (.bool true))) : RViewAt W' L (st.saw k n) := by
  obtain ⟨e1, c1, h1, k1⟩ := hV.cr
  obtain ⟨e2, c2, h2, k2⟩ := hV.cm
  have hbs : (st.saw k n).base = st.base := by unfold VSt.saw; split <;> rfl
  have hwr : wrV (st.saw k n) = wrV st := by unfold VSt.saw wrV; split <;> rfl
  refine ⟨blk_of_turn ht hV.cq (cells_ne_map hV.cq h1), by rw [hbs]; exact hV.sa.keep ht (cells_ne_map hV.sa.cd h1) hV.ne.2.1, ⟨es', clk', hb, ?_⟩, ⟨e2, c2, blk_of_turn ht h2 (Ne.symm hV.ne.1), by rw [hwr]; exact k2⟩, hV.ne⟩
  rw [rd_saw st k n hpp, inR_upd _ _ _ _ hpp]; exact hk
set_option maxRecDepth 100000 in
set_option maxHeartbeats 1000000 in
theorem rvget_neg (L : RLay) (st : VSt) (k n : Int) (hk : k ≤ 9223372036854775807) (hpp : placeI k n < 0) (w : World) (hV : RViewAt w L st) :
    Calls Tryz.prog 37 #[.pointer (some ⟨L.q, 0, none⟩), keyV k n] w fun e w' => e = .returned (.agg Val.zero.cells) ∧ Below w.heap.size w w' := by
  have hpl := fun W => rplace_any k n hk W
  have HP := Lib.hid hpl
  clear hpl
  have hz := zero_val
  have hdd : decide (placeI k n < 0) = true := decide_eq_true hpp
  generalize placeI k n = P at *
  go_enter Tryz.func37, Tryz.ntmps37
  go_wp2_with fail
  refine (HP.out _).mono ?_; rintro e w1 ⟨rfl, hb⟩
  obtain ⟨k0, h2, h3, h4, h5⟩ := after2 hb
  clear hb h3
  go_wp2_with fail
  exact bodyPost_val (b := w.heap.size + 1) rfl rfl rfl (setRow_heap _ _ _ _ _ _ h2) rfl ⟨rfl, below_setRow h5 (by omega) _⟩
set_option maxRecDepth 100000 in
set_option maxHeartbeats 1000000 in
theorem rvget_hit (L : RLay) (st : VSt) (k n : Int) (x : Val) (hk : k ≤ 9223372036854775807) (hpp : 0 ≤ placeI k n) (hx : st.wr k n = some x) (w : World) (hV : RViewAt w L st) :
    Calls Tryz.prog 37 #[.pointer (some ⟨L.q, 0, none⟩), keyV k n] w fun e w' => e = .returned (.agg x.cells) ∧ RViewAt w' L (st.saw k n) ∧ Turn (· = L.r) w w' := by
  obtain ⟨esr, clr, hr, hkr⟩ := hV.cr
  obtain ⟨esm, clm, hm, hkm⟩ := hV.cm
  obtain ⟨esr', clr', hkr', hput⟩ := run_putI (r := L.r) Tryz.underlying129 hkr (placeI k n) (place_wfI k n) (.bool true)
  have hlook := fun (W : World) (q : blk W L.m = some (.map esm clm)) => (run_lookI Tryz.underlying110 hkm (placeI k n) (place_wfI k n) W q (zero_val W)).1
  rw [inR_at _ _ _ hpp] at hlook
  unfold wrV at hlook
  simp only [hx, Option.map_some, Option.getD_some, Option.isSome_some] at hlook
  have hpl := fun W => rplace_any k n hk W
  have HP := Lib.hid hpl
  have hz := zero_val
  have lv := lt_of_heap hV.cq
  have lr := lt_of_heap hr
  have lm := lt_of_heap hm
  have hne := Ne.symm hV.ne.1
  have vr := cells_ne_map hV.cq hr
  have HX : ∀ W', Turn (· = L.r) w W' → blk W' L.r = some (.map esr' clr') → RViewAt W' L (st.saw k n) := fun W' ht hb => hV.saw hpp ht hb hkr'
  have HXh := Lib.hid HX
  have hcq := hV.cq
  clear HX hpl hx hV hkr'
  have hdd : decide (placeI k n < 0) = false := decide_eq_false (by omega)
  generalize st.saw k n = X at *
  generalize placeI k n = P at *
  go_enter Tryz.func37, Tryz.ntmps37
  go_wp2_with fail
  refine (HP.out _).mono ?_; rintro e w1 ⟨rfl, hb⟩
  obtain ⟨k0, h2, h3, h4, h5⟩ := after2 hb
  have v1 := cell_of_row w1 L.q 1 _ _ _ ((h3 L.q lv).trans hcq)
  have v2 := cell_of_row w1 L.q 2 _ _ _ ((h3 L.q lv).trans hcq)
  simp at v1 v2
  have hr1 := (h3 L.r lr).trans hr
  have hm1 := (h3 L.m lm).trans hm
  have q1 : w.heap.size ≠ L.r := by omega
  have q2 : w.heap.size + 1 ≠ L.r := by omega
  have q4 : w.heap.size + 1 < w1.heap.size := by omega
  have q5 : L.r < w1.heap.size := by omega
  have q6 : L.m < w1.heap.size := by omega
  clear hb h3 hr hm
  go_wp2_with fail
  have hT : Turn (· = L.r) w (((setB w1 L.r (Obj.map esr' clr')).setRow (w.heap.size + 1) x.cells).alloc (Obj.cells x.cells 60)) :=
    (((Turn.of_below h5 (· = L.r)).setB (b := L.r) (Or.inl (show L.r = L.r from rfl)) _).setRow (b := w.heap.size + 1) (Or.inr (by omega)) _).alloc _
  refine bodyPost_val (b := w.heap.size + 1) (c := x.cells) (t := 60) (fz := (0, 0)) rfl rfl rfl ?_ (cells_size _) ⟨rfl, HXh.out _ hT ?_, hT⟩
  · show blk _ _ = _
    have : blk (setB w1 L.r (Obj.map esr' clr')) (w.heap.size + 1) = some (.cells Val.zero.cells 60 (0, 0)) := by rw [blk_setB_other _ _ _ _ q2]; exact h2
    rw [blk_alloc_past _ _ _ (by simp [setB_size]; omega)]
    exact setRow_heap _ _ _ _ _ _ this
  · rw [blk_alloc_past _ _ _ (by simp [setB_size]; omega), blk_setRow_other _ _ _ _ (Ne.symm q2), blk_setB_same _ _ _ q5]
set_option maxRecDepth 100000 in
set_option maxHeartbeats 1000000 in
theorem rvget_miss (L : RLay) (st : VSt) (k n : Int) (hk : k ≤ 9223372036854775807) (hpp : 0 ≤ placeI k n) (hx : st.wr k n = none) (w : World) (hV : RViewAt w L st) :
    Calls Tryz.prog 37 #[.pointer (some ⟨L.q, 0, none⟩), keyV k n] w fun e w' => e = .returned (.agg (st.base (placeI k n).toNat).cells) ∧ RViewAt w' L (st.saw k n) ∧ Turn (· = L.r) w w' := by
  obtain ⟨esr, clr, hr, hkr⟩ := hV.cr
  obtain ⟨esm, clm, hm, hkm⟩ := hV.cm
  obtain ⟨esr', clr', hkr', hput⟩ := run_putI (r := L.r) Tryz.underlying129 hkr (placeI k n) (place_wfI k n) (.bool true)
  have hlook := fun (W : World) (q : blk W L.m = some (.map esm clm)) => (run_lookI Tryz.underlying110 hkm (placeI k n) (place_wfI k n) W q (zero_val W)).1
  rw [inR_at _ _ _ hpp] at hlook
  unfold wrV at hlook
  simp only [hx, Option.map_none, Option.getD_none, Option.isSome_none] at hlook
  obtain ⟨ess, cls, f, hs, hks, hf1, hf2⟩ := hV.sa.cm
  have hloo2 := fun (W : World) (q : blk W L.s = some (.map ess cls)) => (run_lookI Tryz.underlying110 hks (placeI k n) (place_wfI k n) W q (zero_val W)).2
  have hff : (f (placeI k n)).getD (.agg Val.zero.cells) = .agg (st.base (placeI k n).toNat).cells := by
    have := hf2 (placeI k n).toNat (by have := k_place_lt k n hpp; omega)
    rwa [show (((placeI k n).toNat : Nat) : Int) = placeI k n by omega] at this
  rw [hff] at hloo2
  have hcd := hV.sa.cd
  have ls := lt_of_heap hs
  have ld := lt_of_heap hcd
  have nds : L.d ≠ L.r := cells_ne_map hcd hr
  have nsr := hV.ne.2.1
  clear hf1 hf2 hff
  have hpl := fun W => rplace_any k n hk W
  have HP := Lib.hid hpl
  have hz := zero_val
  have lv := lt_of_heap hV.cq
  have lr := lt_of_heap hr
  have lm := lt_of_heap hm
  have hne := Ne.symm hV.ne.1
  have vr := cells_ne_map hV.cq hr
  have HX : ∀ W', Turn (· = L.r) w W' → blk W' L.r = some (.map esr' clr') → RViewAt W' L (st.saw k n) := fun W' ht hb => hV.saw hpp ht hb hkr'
  have HXh := Lib.hid HX
  have hcq := hV.cq
  clear HX hpl hx hV hkr'
  generalize st.base (placeI k n).toNat = x at *
  have hdd : decide (placeI k n < 0) = false := decide_eq_false (by omega)
  generalize st.saw k n = X at *
  generalize placeI k n = P at *
  go_enter Tryz.func37, Tryz.ntmps37
  go_wp2_with fail
  refine (HP.out _).mono ?_; rintro e w1 ⟨rfl, hb⟩
  obtain ⟨k0, h2, h3, h4, h5⟩ := after2 hb
  have v1 := cell_of_row w1 L.q 1 _ _ _ ((h3 L.q lv).trans hcq)
  have v2 := cell_of_row w1 L.q 2 _ _ _ ((h3 L.q lv).trans hcq)
  have v0 := cell_of_row w1 L.q 0 _ _ _ ((h3 L.q lv).trans hcq)
  have d0 := cell_of_row w1 L.d 0 _ _ _ ((h3 L.d ld).trans hcd)
  simp at v0 v1 v2 d0
  have hs1 := (h3 L.s ls).trans hs
  have hr1 := (h3 L.r lr).trans hr
  have hm1 := (h3 L.m lm).trans hm
  have q1 : w.heap.size ≠ L.r := by omega
  have q2 : w.heap.size + 1 ≠ L.r := by omega
  have q4 : w.heap.size + 1 < w1.heap.size := by omega
  have q5 : L.r < w1.heap.size := by omega
  have q6 : L.m < w1.heap.size := by omega
  have q7 : L.s < w1.heap.size := by omega
  have q8 : L.d < w1.heap.size := by omega
  have q9 : L.q < w1.heap.size := by omega
  have q10 : w.heap.size + 1 ≠ L.s := by omega
  clear hb h3 hr hm hs
  go_wp2_with fail
  have hT : Turn (· = L.r) w (((setB w1 L.r (Obj.map esr' clr')).setRow (w.heap.size + 1) x.cells).alloc (Obj.cells Val.zero.cells 60)) :=
    (((Turn.of_below h5 (· = L.r)).setB (b := L.r) (Or.inl (show L.r = L.r from rfl)) _).setRow (b := w.heap.size + 1) (Or.inr (by omega)) _).alloc _
  refine bodyPost_val (b := w.heap.size + 1) (c := x.cells) (t := 60) (fz := (0, 0)) rfl rfl rfl ?_ (cells_size _) ⟨rfl, HXh.out _ hT ?_, hT⟩
  · show blk _ _ = _
    have : blk (setB w1 L.r (Obj.map esr' clr')) (w.heap.size + 1) = some (.cells Val.zero.cells 60 (0, 0)) := by rw [blk_setB_other _ _ _ _ q2]; exact h2
    rw [blk_alloc_past _ _ _ (by simp [setB_size]; omega)]
    exact setRow_heap _ _ _ _ _ _ this
  · rw [blk_alloc_past _ _ _ (by simp [setB_size]; omega), blk_setRow_other _ _ _ _ (Ne.symm q2), blk_setB_same _ _ _ q5]
theorem rvget_any (L : RLay) (st : VSt) (k n : Int) (hk : k ≤ 9223372036854775807) (w : World) (hV : RViewAt w L st) :
    Calls Tryz.prog 37 #[.pointer (some ⟨L.q, 0, none⟩), keyV k n] w fun e w' => e = .returned (.agg (st.get k n).cells) ∧ RViewAt w' L (st.saw k n) ∧ Turn (· = L.r) w w' := by
  by_cases h : placeI k n < 0
  · have e1 : st.saw k n = st := by unfold VSt.saw; rw [if_pos h]
    have e2 : st.get k n = Val.zero := by unfold VSt.get; rw [if_pos h]
    rw [e1, e2]
    exact (rvget_neg L st k n hk h w hV).mono fun e w' ⟨a, b⟩ => ⟨a, hV.below b, Turn.of_below b _⟩
  · cases hx : st.wr k n with
    | some x =>
      have e2 : st.get k n = x := by unfold VSt.get; rw [if_neg h, hx]; rfl
      rw [e2]; exact rvget_hit L st k n x hk (by omega) hx w hV
    | none =>
      have e2 : st.get k n = st.base (placeI k n).toNat := by unfold VSt.get; rw [if_neg h, hx]; rfl
      rw [e2]; exact rvget_miss L st k n hk (by omega) hx w hV
theorem rvput_any (L : RLay) (st : VSt) (k n : Int) (x : Val) (hk : k ≤ 9223372036854775807) (w : World) (hV : RViewAt w L st) :
    Calls Tryz.prog 40 #[.pointer (some ⟨L.q, 0, none⟩), keyV k n, .agg x.cells] w fun e w' => (∃ v, e = .returned v) ∧ RViewAt w' L (st.put k n x) ∧ Turn (· = L.m) w w' := by
  by_cases h : 0 ≤ placeI k n
  · exact rvput_yes L st k n x hk h w hV
  · have e1 : st.put k n x = st := by unfold VSt.put; rw [if_pos (by omega)]
    rw [e1]
    have hpl := fun W => rplace_any k n hk W
    have HP := Lib.hid hpl
    clear hpl e1
    have hd : decide (0 ≤ placeI k n) = false := decide_eq_false h
    generalize placeI k n = P at *
    go_enter Tryz.func40, Tryz.ntmps40
    go_wp2_with fail
    refine (HP.out _).mono ?_; rintro e w1 ⟨rfl, hb⟩
    obtain ⟨_, h2, h3, h4, h5⟩ := after2 hb
    have S1 := hV.below h5
    clear hb h3 hV
    go_wp2_with fail
    go_end0
    exact ⟨⟨_, rfl⟩, S1, Turn.of_below h5 _⟩
end Go.Proofs.YtfcgkjbifnhjjaaGreatDoor.St

namespace Go.Proofs.YtfcgkjbifnhjjaaGreatDoor.St
open Go.RowKit
set_option linter.unusedVariables false

theorem rstore_any (w : World) :
    Calls Tryz.prog 25 #[] w fun e w' => e = .returned (.pointer (some ⟨w.heap.size + 1, 0, none⟩)) ∧ w' = ((w.alloc (Obj.map #[] 0)).alloc (Obj.cells #[Value.map (some w.heap.size)] 112)) := by
  have hmm := @run_makeMap Tryz.prog
  go_enter Tryz.func25, Tryz.ntmps25
  go_wp2_with fail
  go_ret
  exact ⟨rfl, rfl⟩

theorem rview_any (d : Nat) (w : World) :
    Calls Tryz.prog 61 #[.pointer (some ⟨d, 0, none⟩)] w fun e w' => e = .returned (.pointer (some ⟨w.heap.size + 1 + 1, 0, none⟩)) ∧
      w' = (((w.alloc (Obj.map #[] 0)).alloc (Obj.map #[] 0)).alloc (Obj.cells #[Value.pointer (some { block := d, off := 0 }), Value.map (some w.heap.size), Value.map (some (w.heap.size + 1))] 131)) := by
  have hmm := @run_makeMap Tryz.prog
  go_enter Tryz.func61, Tryz.ntmps61
  go_wp2_with fail
  go_ret
  exact ⟨rfl, rfl⟩

theorem rnewstore (w : World) :
    Calls Tryz.prog 25 #[] w fun e w' => ∃ d s, e = .returned (.pointer (some ⟨d, 0, none⟩)) ∧ RStoreAt w' d s (fun _ => Val.zero) ∧ Below w.heap.size w w' ∧ w.heap.size ≤ d ∧ w.heap.size ≤ s := by
  refine (rstore_any w).mono ?_
  rintro e w' ⟨rfl, rfl⟩
  exact ⟨w.heap.size + 1, w.heap.size, rfl, ⟨heap_alloc2_new _ _ _, #[], 0, _, heap_alloc2_old _ _ _, ki_empty, fun p v h => (by cases h), fun p hp => rfl⟩, ((Below.refl _ _).alloc (Nat.le_refl _) _).alloc (by simp) _, by omega, Nat.le_refl _⟩
theorem inR_none : inR (fun _ _ => none) = fun _ => none := by funext p; unfold inR; split <;> rfl
theorem rnewview (d s : Nat) (base : Nat → Val) (w : World) (hR : RStoreAt w d s base) :
    Calls Tryz.prog 61 #[.pointer (some ⟨d, 0, none⟩)] w fun e w' => ∃ L : RLay, L.d = d ∧ L.s = s ∧ e = .returned (.pointer (some ⟨L.q, 0, none⟩)) ∧ RViewAt w' L (VSt.fresh base) ∧ Below w.heap.size w w' ∧ w.heap.size ≤ L.q ∧ w.heap.size ≤ L.r ∧ w.heap.size ≤ L.m := by
  have hb : Below w.heap.size w (((w.alloc (Obj.map #[] 0)).alloc (Obj.map #[] 0)).alloc (Obj.cells #[Value.pointer (some { block := d, off := 0 }), Value.map (some w.heap.size), Value.map (some (w.heap.size + 1))] 131)) :=
    (((Below.refl _ _).alloc (Nat.le_refl _) _).alloc (by simp) _).alloc (by simp; omega) _
  obtain ⟨_, _, _, h1, _⟩ := hR.cm
  have hl := lt_of_heap h1
  refine (rview_any d w).mono ?_
  rintro e w' ⟨rfl, rfl⟩
  refine ⟨⟨w.heap.size + 1 + 1, d, s, w.heap.size, w.heap.size + 1⟩, rfl, rfl, rfl, ⟨?_, hR.below hb, ⟨#[], 0, ?_, ?_⟩, ⟨#[], 0, ?_, ?_⟩, ?_⟩, hb, by show w.heap.size ≤ w.heap.size + 1 + 1; omega, Nat.le_refl _, by show w.heap.size ≤ w.heap.size + 1; omega⟩
  · exact blk_alloc_at _ _ _ (by simp)
  · show blk _ w.heap.size = _
    rw [blk_alloc_past _ _ _ (by simp; omega), blk_alloc_past _ _ _ (by simp), blk_alloc_at _ _ _ rfl]
  · show KI #[] 0 (inR fun _ _ => none)
    rw [inR_none]; exact ki_empty
  · show blk _ (w.heap.size + 1) = _
    rw [blk_alloc_past _ _ _ (by simp), blk_alloc_at _ _ _ (by simp)]
  · show KI #[] 0 (inR fun _ _ => none)
    rw [inR_none]; exact ki_empty
  · show w.heap.size ≠ w.heap.size + 1 ∧ s ≠ w.heap.size ∧ s ≠ w.heap.size + 1
    omega

/-! ### Lists of keys -/
theorem kls_push {B : Nat} {W : World} {v : Value} {l : List (Int × Int)} (h : KLs B W v l) (hB : B ≤ W.heap.size) (hl : l.length ≤ 10000) (G : Nat) (A C : Int) (hG : blk W G = some (.cells #[.int .i64 A, .int .i64 C] 57 (0, 0))) (ty : TypeId) :
    ∃ v' W', (Builtin.append_ #[81, 81] ty #[v, .slice (some ⟨G, 0, none⟩) 1 1]).run Tryz.prog W = .ok v' W' ∧ KLs B W' v' (l ++ [(A, C)]) ∧ Below B W W' ∧ W.grownBy W' v.ownBlock := by
  obtain ⟨i1, hi, hz0, hz1, hz2⟩ := info_parts info_key
  have h0 := cell_of_row W G 0 _ _ _ hG
  have h1 := cell_of_row W G 1 _ _ _ hG
  obtain ⟨v', W', h1, h2, h3, h5⟩ := run_append_own (P := Tryz.prog) (w := W) B 81 ty 57 i1 (.agg #[.int .i64 0, .int .i64 0]) 2 16 Tryz.underlying81 hi hz0 hz1 hz2 rfl (by decide) v l.length (kcL l) h ⟨G, 0, none⟩ 1 1 [.int .i64 A, .int .i64 C] rfl
    (fun j u hj => by
      match j, hj with
      | 0, hj => simp at hj; subst hj; exact h0
      | 1, hj => simp at hj; subst hj; exact h1) (ones2 A C) (by unfold maxLen; omega) (by omega) hB
  refine ⟨v', W', h1, ?_, (Below.refl B W).grown h3 hB (fun j hj => (World.ownsRow.lt h j hj).1), h3⟩
  unfold KLs
  rw [kcL_app, List.length_append]
  exact h2
/-- The keys of the first j places, of those that h says. -/
def upK (h : Int → Int → Bool) (j : Nat) : List (Int × Int) := ((List.range j).filter fun (p : Nat) => h (keyP p).1 (keyP p).2).map fun (p : Nat) => keyP p
theorem upK_len (h : Int → Int → Bool) (j : Nat) : (upK h j).length ≤ j := by
  unfold upK
  rw [List.length_map]
  exact Nat.le_trans (List.length_filter_le _ _) (by simp)
theorem upK_step (h : Int → Int → Bool) (j : Nat) : upK h (j + 1) = upK h j ++ (if h (keyP j).1 (keyP j).2 then [keyP j] else []) := by
  unfold upK
  rw [List.range_succ, List.filter_append, List.map_append]
  congr 1
  rw [List.filter_cons]
  split <;> rfl
theorem upK_end (h : Int → Int → Bool) : upK h 55 = (plF h).map keyP := by
  unfold upK plF
  rw [List.map_map]; rfl
theorem kls_kl {B : Nat} {W : World} {v : Value} {ps : List Int} (h : KLs B W v (ps.map keyP)) : KL B W v ps.length (sk ps) := by
  have := h.kl
  rw [List.length_map] at this
  exact this.congr fun i hi => by
    rw [sk_get ps i hi]
    simp [List.getD, List.getElem?_eq_getElem hi, keyP]
attribute [local irreducible] Int.lt Int.le
set_option maxRecDepth 100000 in
set_option maxHeartbeats 1000000 in
theorem rlist_any (r : Nat) (es : Array MapEntry) (clk : Nat) (f : Int → Option Value) (h : Int → Int → Bool) (hk : KI es clk f) (hf : ∀ p v, f p = some v → v = .bool true) (he : ∀ p : Nat, p < 55 → (f p).isSome = h (keyP p).1 (keyP p).2) (w : World) (hb : blk w r = some (.map es clk)) :
    Calls Tryz.prog 79 #[.map (some r)] w fun e w' => ∃ v, e = .returned v ∧ KL w.heap.size w' v (plF h).length (sk (plF h)) ∧ Below w.heap.size w w' := by
  have hl := lt_of_heap hb
  have hzb : ∀ W, (zeroValue 4).run Tryz.prog W = .ok (.bool false) W := fun W => by kernel_rfl
  have hlook := fun (W : World) (q : blk W r = some (.map es clk)) (p : Nat) (hp : p < 55) => (run_lookI Tryz.underlying129 hk (p : Int) (wfI_of (by omega) (by omega)) W q (hzb W)).2
  have hval : ∀ p : Nat, p < 55 → (f p).getD (.bool false) = .bool (h (keyP p).1 (keyP p).2) := fun p hp => by
    rw [← he p hp]
    cases hv : f p with
    | none => rfl
    | some v => rw [hf p v hv]; rfl
  have HLook := Lib.hid hlook
  have HVal := Lib.hid hval
  clear hlook hval he hf hk
  go_enter Tryz.func79, Tryz.ntmps79
  go_wp2_with fail
  go_loopw [3, 4] (fun v i wr => ∃ j : Nat, j ≤ 55 ∧ i = .int .i64 (j : Int) ∧ KLs w.heap.size wr v (upK h j) ∧ Below w.heap.size w wr) (fun _ i _ => 55 - (intOf i).toNat)
  case atStart => exact ⟨0, by omega, rfl, World.ownsRow_nil _ _ _ _, Below.refl _ _⟩
  case round =>
    obtain ⟨j, hj, rfl, hown, hbw⟩ := hrel
    have j0 : (0 : Int) ≤ (j : Int) := by omega
    go_wp2_with fail
    refine (rall_any _).mono ?_; rintro e w1 ⟨rfl, t1⟩
    have hown1 := hown.below t1
    have hbw1 := hbw.trans (t1.mono hbw.size)
    have hb1 := (hbw1.block r hl).trans hb
    clear hown hbw t1
    by_cases hlt : j < 55
    · have l1 : (j : Int) < 55 := by omega
      have hlk := HLook.out w1 hb1 j hlt
      rw [HVal.out j hlt] at hlk
      have hst := upK_step h j
      have HST := Lib.hid hst
      clear hst
      cases hh : h (keyP j).1 (keyP j).2 with
      | false =>
        rw [hh] at hlk
        have hown2 := hown1
        rw [show upK h j = upK h (j + 1) by rw [HST.out, hh]; simp] at hown2
        clear hown1 HST hh
        go_wp2_with fail
        exact ⟨⟨j + 1, by omega, by go_num, hown2, hbw1⟩, by simp [intOf]; omega⟩
      | true =>
        rw [hh] at hlk
        have hat := rat_any (j : Int) (by omega) (by omega) w1
        rw [show atV (j : Int) = .agg #[.int .i64 (keyP j).1, .int .i64 (keyP j).2] from rfl] at hat
        have hst2 : upK h (j + 1) = upK h j ++ [((keyP j).1, (keyP j).2)] := by rw [HST.out, hh]; rfl
        have HST2 := Lib.hid hst2
        have HAT := Lib.hid hat
        clear hst2 HST hh hat
        generalize (keyP j).1 = A at *
        generalize (keyP j).2 = C at *
        generalize (atK (j : Int)).isSome = D at *
        go_wp2_with fail
        refine HAT.out.mono ?_; rintro e w2 ⟨rfl, t2⟩
        have hown2 := hown1.below t2
        have hbw2 := hbw1.trans (t2.mono hbw1.size)
        clear hown1 hbw1 t2 HAT hlk hb1
        go_upto_region 7 with fail
        have b3 : Below w2.heap.size w2 (w2.alloc (.cells #[.int .i64 A, .int .i64 C] 57)) := (Below.refl _ _).alloc (Nat.le_refl _) _
        have k0 : (w2.alloc (.cells #[.int .i64 A, .int .i64 C] 57)).cell? ⟨w2.heap.size, 0, none⟩ = some (.int .i64 A) := cell_of_row _ _ 0 _ _ _ (heap_alloc_new _ _)
        have k1 : (w2.alloc (.cells #[.int .i64 A, .int .i64 C] 57)).cell? ⟨w2.heap.size, 1, none⟩ = some (.int .i64 C) := cell_of_row _ _ 1 _ _ _ (heap_alloc_new _ _)
        have hown3 := hown2.below b3
        have hbw3 := hbw2.trans (b3.mono hbw2.size)
        clear hown2 hbw2 b3
        generalize w2.alloc (.cells #[.int .i64 A, .int .i64 C] 57) = W3 at *
        generalize w2.heap.size = K at *
        have b4 : Below W3.heap.size W3 (W3.alloc (.cells #[.int .i64 A, .int .i64 C] 57)) := (Below.refl _ _).alloc (Nat.le_refl _) _
        have hown4 := hown3.below b4
        have hbw4 := hbw3.trans (b4.mono hbw3.size)
        obtain ⟨v', W5, hrun, hk5, hb5, _⟩ := kls_push hown4 hbw4.size (by have := upK_len h j; omega) W3.heap.size A C (heap_alloc_new _ _) 81
        rw [← HST2.out] at hk5
        have hb6 := hbw4.trans hb5
        go_wp2_with (first | (at_builtin; refine wpList_run_append rfl _ _ _ rfl rfl rfl hrun ?_) | fail)
        exact ⟨⟨j + 1, by omega, by go_num, hk5, hb6⟩, by simp [intOf]; omega⟩
    · obtain rfl : j = 55 := by omega
      rw [upK_end] at hown1
      have hkl := kls_kl hown1
      obtain ⟨a, c, rfl, _⟩ := hown1.kl.kr
      clear hown1
      rw [List.length_map] at hkl
      go_wp2_with fail
      go_ret
      exact ⟨_, rfl, hkl, hbw1⟩
end Go.Proofs.YtfcgkjbifnhjjaaGreatDoor.St

namespace Go.Proofs.YtfcgkjbifnhjjaaGreatDoor.St
open Go.RowKit
set_option linter.unusedVariables false

theorem rlist_in (r : Nat) (es : Array MapEntry) (clk : Nat) (g : Int → Int → Option Value) (hk : KI es clk (inR g)) (hf : ∀ k n v, g k n = some v → v = .bool true) (w : World) (hb : blk w r = some (.map es clk)) :
    Calls Tryz.prog 79 #[.map (some r)] w fun e w' => ∃ v, e = .returned v ∧ KL w.heap.size w' v (plF fun k n => (g k n).isSome).length (sk (plF fun k n => (g k n).isSome)) ∧ Below w.heap.size w w' :=
  rlist_any r es clk (inR g) _ hk (fun p v h => by
    unfold inR at h
    split at h
    · exact hf _ _ _ h
    · cases h) (fun p hp => by unfold inR; rw [if_pos (by omega)]) w hb
attribute [local irreducible] Int.lt Int.le
set_option maxRecDepth 100000 in
theorem rvreads_any (L : RLay) (st : VSt) (w : World) (hV : RViewAt w L st) (hO : VOk st) :
    Calls Tryz.prog 46 #[.pointer (some ⟨L.q, 0, none⟩)] w fun e w' => ∃ v, e = .returned v ∧ KL w.heap.size w' v (rdP st).length (sk (rdP st)) ∧ Below w.heap.size w w' := by
  obtain ⟨es, clk, hb, hk⟩ := hV.cr
  have c1 := cell_of_row w L.q 1 _ _ _ hV.cq
  simp only [List.getElem?_toArray, List.getElem?_cons_succ, List.getElem?_cons_zero] at c1
  have hc := rlist_in L.r es clk st.rd hk (fun k n v h => (hO.rd k n v h).2) w hb
  rw [show (plF fun k n => (st.rd k n).isSome) = rdP st from rfl] at hc
  have HC := Lib.hid hc
  clear hc hk hb
  generalize rdP st = ps at *
  go_enter Tryz.func46, Tryz.ntmps46
  go_wp2_with fail
  refine HC.out.mono ?_; rintro e w2 ⟨v, rfl, hkl, hb⟩
  obtain ⟨a, c, rfl, _⟩ := hkl.kr
  go_wp2_with fail
  go_ret
  exact ⟨_, rfl, hkl, hb⟩

/-- An entry's key, as a number. -/
def iOf (e : MapEntry) : Int := match e.key with
  | .int .i64 a => a
  | _ => 0
theorem iOf_key {e : MapEntry} {p : Int} (h : e.key = .int .i64 p) : iOf e = p := by unfold iOf; rw [h]
theorem KI.at {es : Array MapEntry} {clk : Nat} {f : Int → Option Value} (h : KI es clk f) {e : MapEntry} (he : e ∈ es.toList) : e.key = .int .i64 (iOf e) ∧ wfI (iOf e) ∧ f (iOf e) = some e.val := by
  obtain ⟨i, hi, rfl⟩ := List.getElem_of_mem he
  obtain ⟨p, h0, h1, h2⟩ := h.keyed i (by simpa using hi)
  have h1' : (es.toList[i]).key = .int .i64 p := by simpa using h1
  rw [iOf_key h1']
  exact ⟨h1', h0, by simpa using h2⟩
theorem KI.all {es : Array MapEntry} {clk : Nat} {f : Int → Option Value} (h : KI es clk f) {xs : List MapEntry} (ha : ∀ e ∈ es.toList, e ∈ xs) (hs : ∀ e ∈ xs, e ∈ es.toList) (p : Int) : (∃ e ∈ xs, iOf e = p) ↔ (f p).isSome = true := by
  constructor
  · rintro ⟨e, he, rfl⟩
    rw [(h.at (hs e he)).2.2]; rfl
  · intro q
    obtain ⟨v, hv⟩ := Option.isSome_iff_exists.1 q
    obtain ⟨i, hi, e1⟩ := h.there p v hv
    have hm : es[i] ∈ es.toList := by simp
    exact ⟨es[i], ha _ hm, iOf_key e1⟩
/-- A map of trues: those that g says, and the numbers of xs. -/
def addX (g : Int → Option Value) (xs : List MapEntry) : Int → Option Value := fun p => if xs.any (fun e => iOf e == p) then some (.bool true) else g p
theorem addX_nil (g : Int → Option Value) : addX g [] = g := by funext p; simp [addX]
theorem addX_snoc (g : Int → Option Value) (xs : List MapEntry) (e : MapEntry) : addX g (xs ++ [e]) = updI (addX g xs) (iOf e) (.bool true) := by
  funext p
  unfold addX updI
  by_cases h : p = iOf e
  · subst h; simp
  · rw [if_neg h]
    simp [Ne.symm h]
theorem addX_in {es : Array MapEntry} {clk : Nat} {f : Int → Int → Option Value} {s : Int → Int → Bool} (hk : KI es clk (inR f)) {xs : List MapEntry} (ha : ∀ e ∈ es.toList, e ∈ xs) (hs : ∀ e ∈ xs, e ∈ es.toList) (hf : ∀ k n, (f k n).isSome = s k n) : addX (fun _ => none) xs = inR (fun k n => if s k n then some (.bool true) else none) := by
  funext p
  have h := hk.all ha hs p
  have h2 : xs.any (fun e => iOf e == p) = (inR f p).isSome := by
    rw [Bool.eq_iff_iff, List.any_eq_true]
    simp only [beq_iff_eq]
    exact h
  unfold addX
  rw [h2]
  unfold inR
  by_cases q : 0 ≤ p ∧ p < 55
  · rw [if_pos q, if_pos q, hf]
  · rw [if_neg q, if_neg q]; rfl
set_option maxRecDepth 100000 in
set_option maxHeartbeats 1000000 in
theorem rwritten_any (L : RLay) (st : VSt) (w : World) (hV : RViewAt w L st) :
    Calls Tryz.prog 80 #[.pointer (some ⟨L.q, 0, none⟩)] w fun e w' => ∃ b es clk g, e = .returned (.map (some b)) ∧ w.heap.size ≤ b ∧ blk w' b = some (.map es clk) ∧ KI es clk (inR g) ∧ (∀ k n v, g k n = some v → v = .bool true) ∧ (∀ k n, (g k n).isSome = (st.wr k n).isSome) ∧ Below w.heap.size w w' := by
  obtain ⟨es, clk, hb, hk⟩ := hV.cm
  have c1 := cell_of_row w L.q 2 _ _ _ hV.cq
  simp only [List.getElem?_toArray, List.getElem?_cons_succ, List.getElem?_cons_zero] at c1
  have hmm := @run_makeMap Tryz.prog
  have hlm := lt_of_heap hb
  go_enter Tryz.func80, Tryz.ntmps80
  have hb1 : (w.alloc (.map #[] 0)).heap[L.m]? = some (.map es clk) := (Below.heap_alloc _ _ _ hlm).trans hb
  have hrs := rng_start hb1
  have hbO : blk ((w.alloc (.map #[] 0)).alloc (.mapIter (some L.m) clk #[] clk)) w.heap.size = some (.map #[] 0) := heap_alloc2_old _ _ _
  have hbe : Below w.heap.size w ((w.alloc (.map #[] 0)).alloc (.mapIter (some L.m) clk #[] clk)) := ((Below.refl _ _).alloc (Nat.le_refl _) _).alloc (by simp) _
  have hszz : (w.alloc (.map #[] 0)).heap.size = w.heap.size + 1 := by simp
  rw [hszz] at hrs
  have c1' : (w.alloc (.map #[] 0)).cell? ⟨L.q, 2, none⟩ = some (.map (some L.m)) := by rw [World.cell?_alloc_lt _ _ _ (cell_block_lt c1)]; exact c1
  have hkB := hk.born
  have HK := Lib.hid hk
  clear hk hV
  go_wp2_with (first
    | (at_range; refine wpList_range_e rfl _ _ rfl _ _ Tryz.underlying110 rfl hb1 ?_)
    | fail)
  rw [hszz]
  go_frame
  clear c1' hb1 hszz c1
  go_loopw [4] (fun _ wr => ∃ xs esO clkO, Rng wr L.m (w.heap.size + 1) es clk xs ∧ blk wr w.heap.size = some (.map esO clkO) ∧ KI esO clkO (addX (fun _ => none) xs) ∧ Below w.heap.size w wr) (fun _ wr => wr.rangeLeft L.m (w.heap.size + 1))
  case atStart => exact ⟨[], #[], 0, hrs, hbO, by rw [addX_nil]; exact ki_empty, hbe⟩
  case round =>
    obtain ⟨xs, esO, clkO, hrg, hbo, hko, hbw⟩ := hrel
    clear hrs hbO hbe
    go_wp2_with (first
      | (at_next; refine wpList_next_e rfl _ rfl rfl hrg hkB ?_ ?_)
      | fail)
    · intro hall
      have hg : addX (fun _ => none) xs = inR (fun k n => if (st.wr k n).isSome then some (.bool true) else none) := addX_in (s := fun k n => (st.wr k n).isSome) HK.out (fun e he => hall e (Array.mem_toList_iff.1 he)) hrg.sub (fun k n => by unfold wrV; rw [Option.isSome_map])
      rw [hg] at hko
      clear hall hg hrg
      go_wp2_with fail
      go_ret
      exact ⟨_, _, _, _, rfl, Nat.le_refl _, hbo, hko, fun k n v h => by split at h <;> cases h; rfl, fun k n => by cases st.wr k n <;> rfl, hbw⟩
    · intro e w2 hem hnx hrg2 hen ht2 hz2 hg2 hlt
      obtain ⟨hek, hwf, _⟩ := HK.out.at (Array.mem_toList_iff.2 hem)
      obtain ⟨es', clk', hk', hput⟩ := run_putI (r := w.heap.size) Tryz.underlying129 hko (iOf e) hwf (.bool true)
      rw [← addX_snoc] at hk'
      have hbo2 : blk w2 w.heap.size = some (.map esO clkO) := blk_of_turn ht2 hbo (by omega)
      have hput2 := hput w2 hbo2
      rw [hek] at hen ⊢
      have hlt2 := lt_of_heap hbo2
      have hrg3 : Rng (setB w2 w.heap.size (.map es' clk')) L.m (w.heap.size + 1) es clk (xs ++ [e]) := hrg2.keep (setB_other _ _ _ _ (by omega)) (setB_other _ _ _ _ (by omega))
      have hl3 : (setB w2 w.heap.size (.map es' clk')).rangeLeft L.m (w.heap.size + 1) = w2.rangeLeft L.m (w.heap.size + 1) := by
        unfold World.rangeLeft
        rw [setB_other _ _ _ _ (show L.m ≠ w.heap.size by omega), setB_other _ _ _ _ (show w.heap.size + 1 ≠ w.heap.size by omega)]
      have hbw2 : Below w.heap.size w (setB w2 w.heap.size (.map es' clk')) := hbw.trans (((ht2.mono (T := fun i => i = w.heap.size + 1 ∨ i = w.heap.size) (fun _ _ q => Or.inl q)).setB (b := w.heap.size) (Or.inl (Or.inr rfl)) _).below hbw.size (fun i q => by rcases q with q | q <;> omega))
      clear hput hrg hrg2 ht2 hg2 hbo hbo2 hko
      go_wp2_with fail
      refine ⟨⟨xs ++ [e], es', clk', hrg3, blk_setB_same _ _ _ hlt2, hk', hbw2⟩, by rw [hl3]; exact hlt⟩
end Go.Proofs.YtfcgkjbifnhjjaaGreatDoor.St

namespace Go.Proofs.YtfcgkjbifnhjjaaGreatDoor.St
open Go.RowKit
set_option linter.unusedVariables false

attribute [local irreducible] Int.lt Int.le
set_option maxRecDepth 100000 in
set_option maxHeartbeats 1000000 in
theorem rvredo_any (L : RLay) (st : VSt) (w : World) (hV : RViewAt w L st) :
    Calls Tryz.prog 43 #[.pointer (some ⟨L.q, 0, none⟩)] w fun e w' => ∃ v, e = .returned v ∧ WL w.heap.size w' v (wrL st) ∧ Below w.heap.size w w' := by
  have hwr := rwritten_any L st w hV
  have HW := Lib.hid hwr
  obtain ⟨es2, clk2, hb2, hk2⟩ := hV.cm
  have c2 := cell_of_row w L.q 2 _ _ _ hV.cq
  simp only [List.getElem?_toArray, List.getElem?_cons_succ, List.getElem?_cons_zero] at c2
  have hcq := hV.cq
  have hlv := lt_of_heap hV.cq
  have hlm := lt_of_heap hb2
  clear hwr hV
  go_enter Tryz.func43, Tryz.ntmps43
  go_wp2_with fail
  refine HW.out.mono ?_; rintro e w2 ⟨B, esW, clkW, g, rfl, hB0, hbW, hkW, hg1, hg2, b2⟩
  have hls := rlist_in B esW clkW g hkW hg1 w2 hbW
  rw [show (plF fun k n => (g k n).isSome) = wrP st from plF_congr fun k n _ => hg2 k n] at hls
  have HS := Lib.hid hls
  clear hls hkW hg1 hg2 hbW HW
  go_wp2_with fail
  refine HS.out.mono ?_; rintro e w3 ⟨v3, rfl, h3, t3⟩
  have b3 := b2.trans (t3.mono b2.size)
  obtain ⟨a, c, rfl, hkr, _, _⟩ := h3.kr
  have hpl : (wrP st).length ≤ 55 := rise_len _ (plF_rises _) (plF_lt _)
  have hpr : ∀ i (h : i < (wrP st).length), 0 ≤ placeI (sk (wrP st) i).1 (sk (wrP st) i).2 ∧ placeI (sk (wrP st) i).1 (sk (wrP st) i).2 < 55 := fun i h => by
    rw [sk_place (wrP st) (plF_lt _) i h]
    exact plF_lt _ _ (List.getElem_mem h)
  have hkb : ∀ i (h : i < (wrP st).length), (sk (wrP st) i).1 ≤ 9223372036854775807 := fun i h => by
    have := (place_range _ _ (hpr i h).1).2.2.2.1; omega
  have HPR := Lib.hid hpr
  have HKB := Lib.hid hkb
  clear t3 b2 HS h3 hpr hkb
  have hstep := wrL_step st
  have HST := Lib.hid hstep
  have hlen := wrL_len st
  have HLEN := Lib.hid hlen
  clear hstep hlen
  generalize wrP st = ps at *
  go_wp2_with fail
  go_loopw [3, 10] (fun v i wr => ∃ j : Nat, j ≤ ps.length ∧ i = .int .i64 (j : Int) ∧ WL w3.heap.size wr v ((wrL st).take j) ∧ Below w3.heap.size w3 wr) (fun _ i _ => ps.length - (intOf i).toNat)
  case atStart => exact ⟨0, by omega, rfl, by rw [List.take_zero]; exact WL.nil _ _, Below.refl _ _⟩
  case round =>
    obtain ⟨j, hj, rfl, hown, hb3⟩ := hrel
    have hbw := b3.trans (hb3.mono b3.size)
    have hsz := b3.size
    by_cases hlt : j < ps.length
    · have l1 : (j : Int) < (ps.length : Int) := by omega
      have l0 : (0 : Int) ≤ (j : Int) := by omega
      obtain ⟨x, rfl, y0, y1⟩ := (hkr.below hb3) j hlt
      have hst := HST.out j hlt
      have hp0 := HPR.out j hlt
      have hkk := HKB.out j hlt
      have hlook := fun (W : World) (q : blk W L.m = some (.map es2 clk2)) => (run_lookI Tryz.underlying110 hk2 (placeI (sk ps j).1 (sk ps j).2) (place_wfI _ _) W q (zero_val W)).2
      have hval : (inR (wrV st) (placeI (sk ps j).1 (sk ps j).2)).getD (.agg Val.zero.cells) = .agg ((st.wr (sk ps j).1 (sk ps j).2).getD Val.zero).cells := by
        rw [inR_at _ _ _ hp0.1]
        unfold wrV
        cases st.wr (sk ps j).1 (sk ps j).2 <;> rfl
      rw [hval] at hlook
      have hpl2 := fun W => rplace_any (sk ps j).1 (sk ps j).2 hkk W
      have hl55 : ((wrL st).take j).length ≤ 10000 := by rw [List.length_take]; omega
      have HSTJ := Lib.hid hst
      have HP := Lib.hid hpl2
      clear hst hval hkr hpl2 hp0 hkk
      rw [show sk ps j = ((sk ps j).1, (sk ps j).2) from rfl] at HSTJ
      generalize ((st.wr (sk ps j).1 (sk ps j).2).getD Val.zero) = X at *
      generalize (sk ps j).1 = A at *
      generalize (sk ps j).2 = C at *
      generalize placeI A C = P at *
      go_upto_region 5 with fail
      have bA : Below wr.heap.size wr (wr.alloc (.cells #[.int .i64 A, .int .i64 C] 57)) := (Below.refl _ _).alloc (Nat.le_refl _) _
      have kb : blk (wr.alloc (.cells #[.int .i64 A, .int .i64 C] 57)) wr.heap.size = some (.cells #[.int .i64 A, .int .i64 C] 57 (0, 0)) := heap_alloc_new _ _
      have hbw2 := hbw.trans (bA.mono hbw.size)
      have hb32 := hb3.trans (bA.mono hb3.size)
      have hown2 := hown.below bA
      have hcm : (wr.alloc (.cells #[.int .i64 A, .int .i64 C] 57)).cell? ⟨L.q, 2, none⟩ = some (.map (some L.m)) := (hbw2.cell hlv).trans c2
      clear y0 y1 bA hbw hb3 hown
      generalize wr.alloc (.cells #[.int .i64 A, .int .i64 C] 57) = W4 at *
      generalize wr.heap.size = K at *
      have k0 := cell_of_row W4 K 0 _ _ _ kb
      have k1 := cell_of_row W4 K 1 _ _ _ kb
      have S0 : (fun W => (W.cell? ⟨K, 0, none⟩ = some (.int .i64 A) ∧ W.cell? ⟨K, 1, none⟩ = some (.int .i64 C)) ∧ W.cell? ⟨L.q, 2, none⟩ = some (.map (some L.m))) W4.drew := ⟨⟨k0, k1⟩, hcm⟩
      refine wp_region_held_drew (S := fun W => (W.cell? ⟨K, 0, none⟩ = some (.int .i64 A) ∧ W.cell? ⟨K, 1, none⟩ = some (.int .i64 C)) ∧ W.cell? ⟨L.q, 2, none⟩ = some (.map (some L.m))) (by kernel_rfl) S0 (fun hHeld => ?_)
      refine reg_take (i := 0) (v := ?_) rfl rfl (by kernel_rfl) (by kernel_rfl) (by kernel_rfl) (fun _ _ _ h => h) (by assumption) (by rfl) ?_ ?_
      rotate_left 1
      · (intro w hSw; (try dsimp only at hSw); go_simp; try with_reducible rfl)
      try simp only [List.setIfInBounds_toArray, List.set_cons_zero, List.set_cons_succ]
      refine reg_take (i := 1) (v := ?_) rfl rfl (by kernel_rfl) (by kernel_rfl) (by kernel_rfl) (fun _ _ _ h => h) (by assumption) (by rfl) ?_ ?_
      rotate_left 1
      · (intro w hSw; (try dsimp only at hSw); go_simp; try with_reducible rfl)
      try simp only [List.setIfInBounds_toArray, List.set_cons_zero, List.set_cons_succ]
      refine reg_take (i := 2) (v := ?_) rfl rfl (by kernel_rfl) (by kernel_rfl) (by kernel_rfl) (fun _ _ _ h => h) (by assumption) (by rfl) ?_ ?_
      rotate_left 1
      · (intro w hSw; (try dsimp only at hSw); go_simp; try with_reducible rfl)
      try simp only [List.setIfInBounds_toArray, List.set_cons_zero, List.set_cons_succ]
      refine reg_take (i := 3) (v := ?_) rfl rfl (by kernel_rfl) (by kernel_rfl) (by kernel_rfl) (fun _ _ _ h => h) (by assumption) (by rfl) ?_ ?_
      rotate_left 1
      · (intro w hSw; (try dsimp only at hSw); go_simp; try with_reducible rfl)
      try simp only [List.setIfInBounds_toArray, List.set_cons_zero, List.set_cons_succ]
      refine reg_take (i := 4) (v := ?_) rfl rfl (by kernel_rfl) (by kernel_rfl) (by kernel_rfl) (fun _ _ _ h => h) (by assumption) (by rfl) ?_ ?_
      rotate_left 1
      · (intro w hSw; (try dsimp only at hSw); go_simp; try with_reducible rfl)
      try simp only [List.setIfInBounds_toArray, List.set_cons_zero, List.set_cons_succ]
      refine reg_take (i := 5) (v := ?_) rfl rfl (by kernel_rfl) (by kernel_rfl) (by kernel_rfl) (fun _ _ _ h => h) (by assumption) (by rfl) ?_ ?_
      rotate_left 1
      · (intro w hSw; (try dsimp only at hSw); go_simp; try with_reducible rfl)
      try simp only [List.setIfInBounds_toArray, List.set_cons_zero, List.set_cons_succ]
      refine reg_take (i := 6) (v := ?_) rfl rfl (by kernel_rfl) (by kernel_rfl) (by kernel_rfl) (fun _ _ _ h => h) (by assumption) (by rfl) ?_ ?_
      rotate_left 1
      · (intro w hSw; (try dsimp only at hSw); go_simp; try with_reducible rfl)
      try simp only [List.setIfInBounds_toArray, List.set_cons_zero, List.set_cons_succ]
      refine reg_step (i := 7) (by kernel_rfl) rfl (by rfl) (fun KC hKC => ?_)
      go_simp
      refine (HP.out _).mono ?_; rintro e w5 ⟨rfl, t5⟩
      have t5' : Below W4.heap.size W4 w5 := (below_drewN (Below.refl _ W4) 1).trans t5
      have s5 : (w5.cell? ⟨K, 0, none⟩ = some (.int .i64 A) ∧ w5.cell? ⟨K, 1, none⟩ = some (.int .i64 C)) ∧ w5.cell? ⟨L.q, 2, none⟩ = some (.map (some L.m)) := ⟨cells_two hHeld.1 t5, (t5.cell (cell_block_lt hHeld.2)).trans hHeld.2⟩
      have hown5 := hown2.below t5'
      have hbw5 := hbw2.trans (t5'.mono hbw2.size)
      have hb35 := hb32.trans (t5'.mono hb32.size)
      have kb5 : blk w5 K = _ := (t5'.block K (lt_of_heap kb)).trans kb
      have hbm5 : blk w5 L.m = some (.map es2 clk2) := (hbw5.block L.m hlm).trans hb2
      have hlk := hlook w5 hbm5
      clear t5 t5' hHeld S0 k0 k1 hcm hbw2 hb32 hown2 kb hlook
      refine hKC.out _ _ ?_ (fun hHeld => ?_)
      · exact s5
      clear hKC KC
      refine reg_run (i := 8) (v := .agg X.cells) (w' := w5) (by kernel_rfl) rfl rfl (by rfl) (run_op_look rfl rfl hlk) s5 (fun hHeld => ?_)
      try simp only [List.setIfInBounds_toArray, List.set_cons_zero, List.set_cons_succ]
      clear hlk
      refine reg_take (i := 9) (v := .agg (wcells A C X)) rfl rfl (by kernel_rfl) (by kernel_rfl) (by kernel_rfl) (fun _ _ _ h => h) (by assumption) (by rfl) (fun w _ => by kernel_rfl) ?_
      try simp only [List.setIfInBounds_toArray, List.set_cons_zero, List.set_cons_succ]
      have bB : Below w5.heap.size w5 (w5.alloc (.cells (wcells A C X) 62)) := (Below.refl _ _).alloc (Nat.le_refl _) _
      have hS2 : (fun W => (W.cell? ⟨K, 0, none⟩ = some (.int .i64 A) ∧ W.cell? ⟨K, 1, none⟩ = some (.int .i64 C)) ∧ W.cell? ⟨L.q, 2, none⟩ = some (.map (some L.m))) (w5.alloc (.cells (wcells A C X) 62)) :=
        ⟨cells_two s5.1 bB, (bB.cell (cell_block_lt s5.2)).trans s5.2⟩
      refine reg_run (i := 10) (v := .slice (some ⟨w5.heap.size, 0, none⟩) 1 1) (w' := w5.alloc (.cells (wcells A C X) 62)) (by kernel_rfl) rfl rfl (by rfl) (by kernel_rfl) hS2 (fun hHeld => ?_)
      try simp only [List.setIfInBounds_toArray, List.set_cons_zero, List.set_cons_succ]
      have hown6 := hown5.below bB
      have kb6 : blk (w5.alloc (.cells (wcells A C X) 62)) K = _ := (bB.block K (lt_of_heap kb5)).trans kb5
      have hbw6 := hbw5.trans (bB.mono hbw5.size)
      have hb36 := hb35.trans (bB.mono hb35.size)
      have cv6 : blk (w5.alloc (.cells (wcells A C X) 62)) L.q = _ := (hbw6.block L.q hlv).trans hcq
      obtain ⟨v', W7, hrun, hwl, hbb, hgr⟩ := wl_push hown6 hb36.size hl55 w5.heap.size A C X (heap_alloc_new _ _) 22
      have kb7 := blk_grown hgr kb6 (hown6.ne kb6 (by decide))
      have cv7 := blk_grown hgr cv6 (hown6.low (Nat.lt_of_lt_of_le hlv hsz))
      have m1 := cell_of_row W7 K 0 _ _ _ kb7
      have m2 := cell_of_row W7 K 1 _ _ _ kb7
      have m3 := cell_of_row W7 L.q 2 _ _ _ cv7
      have s7 : (fun W => (W.cell? ⟨K, 0, none⟩ = some (.int .i64 A) ∧ W.cell? ⟨K, 1, none⟩ = some (.int .i64 C)) ∧ W.cell? ⟨L.q, 2, none⟩ = some (.map (some L.m))) W7 := ⟨⟨m1, m2⟩, m3⟩
      have hb37 := hb36.trans hbb
      clear hHeld
      refine reg_step (i := 11) (by kernel_rfl) rfl (by rfl) (fun KC hKC => ?_)
      refine wp_run_append _ _ _ rfl rfl rfl hrun ?_
      go_simp
      clear m1 m2 m3 kb7 cv7 kb6 cv6 hgr hrun hown6 hown5 hS2 kb5 hbm5 s5 bB
      refine hKC.out _ _ ?_ (fun hHeld => ?_)
      · exact s7
      clear hKC KC
      refine reg_take (i := 12) (v := ?_) rfl rfl (by kernel_rfl) (by kernel_rfl) (by kernel_rfl) (fun _ _ _ h => h) (by assumption) (by rfl) ?_ ?_
      rotate_left 1
      · (intro w hSw; (try dsimp only at hSw); go_simp; try with_reducible rfl)
      try simp only [List.setIfInBounds_toArray, List.set_cons_zero, List.set_cons_succ]
      refine wpAnyH_done (by kernel_rfl) ?_ _
      clear s7 hHeld hbw6 hbw5 hb35 hb36 hbb
      have hfin : WL w3.heap.size W7 v' ((wrL st).take (j + 1)) := by rw [HSTJ.out]; exact hwl
      clear hwl HSTJ
      go_wp2_with fail
      exact ⟨⟨j + 1, by omega, by go_num, hfin, hb37⟩, by simp [intOf]; omega⟩
    · obtain rfl : j = ps.length := by omega
      rw [← HLEN.out, List.take_length] at hown
      clear hkr HST
      have hB := b3.size
      go_wp2_with fail
      go_ret
      exact ⟨_, rfl, hown.mono hB, hbw⟩
end Go.Proofs.YtfcgkjbifnhjjaaGreatDoor.St

namespace Go.Proofs.YtfcgkjbifnhjjaaGreatDoor.St
open Go.RowKit
set_option linter.unusedVariables false

attribute [local go_sem] blk_alloc_at blk_alloc_past blk_drew blk_drewN blk_setB_same blk_setB_other blk_setRow_other setRow_alloc_at setRow_alloc_past setRow_drewN setRow_drew setB_size setB_cell setB_frozen setB_alloc_past setB_drewN setB_drew
attribute [local go_sem ↓] wp_at0 wp_at1 wp_at2 wp_at3 wp_at4 wp_at5 wp_at6 wp_at7 wp_at8 wp_at9 wp_at10 wp_at11 wp_at12 wp_at13 wp_at14 wp_at15 wp_at16 wp_at17

/-- A document's view that has read and written nothing. -/
def RNew (W : World) (q d B : Nat) : Prop := ∃ r m, blk W q = some (.cells #[.pointer (some ⟨d, 0, none⟩), .map (some r), .map (some m)] 131 (0, 0)) ∧ blk W r = some (.map #[] 0) ∧ blk W m = some (.map #[] 0) ∧ B ≤ q ∧ B ≤ r ∧ B ≤ m ∧ r ≠ m

theorem rview_new (d : Nat) (w : World) :
    Calls Tryz.prog 61 #[.pointer (some ⟨d, 0, none⟩)] w fun e w' => ∃ q, e = .returned (.pointer (some ⟨q, 0, none⟩)) ∧ RNew w' q d w.heap.size ∧ Below w.heap.size w w' ∧ q < w'.heap.size := by
  refine (rview_any d w).mono ?_
  rintro e w' ⟨rfl, rfl⟩
  refine ⟨_, rfl, ⟨w.heap.size, w.heap.size + 1, blk_alloc_at _ _ _ (by simp), ?_, ?_, by omega, Nat.le_refl _, by omega, by omega⟩, (((Below.refl _ _).alloc (Nat.le_refl _) _).alloc (by simp) _).alloc (by simp; omega) _, by simp⟩
  · rw [blk_alloc_past _ _ _ (by simp; omega), blk_alloc_past _ _ _ (by simp), blk_alloc_at _ _ _ rfl]
  · rw [blk_alloc_past _ _ _ (by simp), blk_alloc_at _ _ _ (by simp)]

/-- The two stores with their views. -/
def TwoAt (W : World) (t s v d q : Nat) : Prop := blk W t = some (.cells #[.pointer (some ⟨s, 0, none⟩), .pointer (some ⟨v, 0, none⟩), .pointer (some ⟨d, 0, none⟩), .pointer (some ⟨q, 0, none⟩)] 34 (0, 0))

set_option maxRecDepth 100000 in
theorem tlook_any (t s l d : Nat) (v0 q0 : Value) (base : Nat → Val) (w : World) (hS : StoreAt w s l base) (hT : blk w t = some (.cells #[.pointer (some ⟨s, 0, none⟩), v0, .pointer (some ⟨d, 0, none⟩), q0] 34 (0, 0))) (hts : t ≠ s) (htl : t ≠ l) :
    Calls Tryz.prog 19 #[.pointer (some ⟨t, 0, none⟩)] w fun e w' => ∃ L : Lay, ∃ q, L.s = s ∧ L.l = l ∧ e = .returned (.tuple #[]) ∧ TwoAt w' t s L.v d q ∧ ViewAt w' L (VSt.fresh base) ∧ RNew w' q d w.heap.size ∧ Turn (· = t) w w' ∧ w.heap.size ≤ L.v ∧ w.heap.size ≤ L.r ∧ w.heap.size ≤ L.m := by
  have c0 := cell_of_row w t 0 _ _ _ hT
  have c2 := cell_of_row w t 2 _ _ _ hT
  simp at c0 c2
  have lt := blk_lt hT
  have hTd : blk w.drew t = _ := (blk_drew w t).trans hT
  have hSd : StoreAt w.drew s l base := hS.keep (S := fun _ => False) (Turn.refl _ _).drew (fun q => q) (fun q => q)
  have ltd : t < w.drew.heap.size := lt
  go_enter Tryz.func19, Tryz.ntmps19
  go_wp2_with fail
  go_region_with (first
    | (go_at_call 60; refine (look_any s l base _ hSd).mono ?_; rintro e w1 ⟨L, rfl, rfl, rfl, hv1, t1, gv, gr, gm⟩; have hT1 := blk_below t1 hTd ltd; have lt1 := blk_lt hT1; have d0 := cell_of_row w1 t 0 _ _ _ hT1; have d1 := cell_of_row w1 t 1 _ _ _ hT1; have d2 := cell_of_row w1 t 2 _ _ _ hT1; have d3 := cell_of_row w1 t 3 _ _ _ hT1; simp at d0 d1 d2 d3)
    | (go_at_call 61; refine (rview_new d _).mono ?_; rintro e w2 ⟨q, rfl, hq, t2, gq⟩; have hT2 := blk_below t2 hT1 lt1; have hv2 := hv1.below t2; have lt2 := blk_lt hT2; have e0 := cell_of_row w2 t 0 _ _ _ hT2; have e1 := cell_of_row w2 t 1 _ _ _ hT2; have e2 := cell_of_row w2 t 2 _ _ _ hT2; have e3 := cell_of_row w2 t 3 _ _ _ hT2; simp at e0 e1 e2 e3; have f2 := frozen_blk hT2))
  all_goals
    go_wp2_with fail
    go_end0
    have b1 := blk_setCell_same hT2 1 (Value.pointer (some ⟨L.v, 0, none⟩))
    have b2 := blk_setCell_same b1 3 (Value.pointer (some ⟨q, 0, none⟩))
    have z1 := t1.size
    have z2 := t2.size
    have z0 : w.drew.heap.size = w.heap.size := rfl
    have tt : Turn (· = t) w2 ((w2.setCell ⟨t, 1, none⟩ (Value.pointer (some ⟨L.v, 0, none⟩))).setCell ⟨t, 3, none⟩ (Value.pointer (some ⟨q, 0, none⟩))) :=
      ((Turn.refl (· = t) w2).setCell (p := ⟨t, 1, none⟩) (Or.inl (show t = t from rfl)) _).setCell (p := ⟨t, 3, none⟩) (Or.inl (show t = t from rfl)) _
    have tw : Turn (· = t) w w2 := ((Turn.refl _ _).drew.trans (Turn.of_below t1 _)).trans (Turn.of_below t2 _)
    refine ⟨L, q, rfl, rfl, rfl, b2, hv2.keep tt ?_, ?_, tw.trans tt, by omega, by omega, by omega⟩
    · rintro i rfl
      exact ⟨by omega, hts, htl, by omega, by omega⟩
    · obtain ⟨r, m, h1, h2, h3, h4, h5, h6, h7⟩ := hq
      exact ⟨r, m, blk_of_turn tt h1 (by omega), blk_of_turn tt h2 (by omega), blk_of_turn tt h3 (by omega), by omega, by omega, by omega, h7⟩

set_option maxRecDepth 100000 in
theorem tnew_nil (w : World) :
    Calls Tryz.prog 5 #[.slice none 0 0] w fun e w' => ∃ t d q, ∃ L : Lay, e = .returned (.pointer (some ⟨t, 0, none⟩)) ∧ TwoAt w' t L.s L.v d q ∧ ViewAt w' L (VSt.fresh fun _ => Val.zero) ∧ RNew w' q d w.heap.size ∧ Below w.heap.size w w' ∧
      w.heap.size ≤ t ∧ w.heap.size ≤ d ∧ w.heap.size ≤ L.v ∧ w.heap.size ≤ L.s ∧ w.heap.size ≤ L.l ∧ w.heap.size ≤ L.r ∧ w.heap.size ≤ L.m := by
  go_enter Tryz.func5, Tryz.ntmps5
  go_wp2_with fail
  refine (new_any _).mono ?_; rintro e w1 ⟨s, l, rfl, hS, t1, gs, gl⟩
  go_wp2_with fail
  refine (rstore_any _).mono ?_; rintro e w2 ⟨rfl, rfl⟩
  go_wp2_with fail
  have z1 := t1.size
  have lw := hS.lts
  obtain ⟨cl0, hcl, _⟩ := hS.cl
  have ll := lt_of_heap hcl
  have hS3 := hS.keep (Turn.of_below (((Below.refl _ w1).alloc (Nat.le_refl _) (Obj.map #[] 0)).alloc (by simp) (Obj.cells #[Value.map (some w1.heap.size)] 112)) (fun _ => False)) (fun q => q) (fun q => q)
  have hS4 := hS3.keep (Turn.of_below ((Below.refl _ _).alloc (Nat.le_refl _) (Obj.cells #[Value.pointer (some ⟨s, 0, none⟩), .pointer none, .pointer (some ⟨w1.heap.size + 1, 0, none⟩), .pointer none] 34)) (fun _ => False)) (fun q => q) (fun q => q)
  go_loop [4] (fun i => i = .int .i64 0) (fun _ => 0)
  case atStart => rfl
  case round =>
    obtain rfl := hrel
    go_wp2_with fail
    refine (tlook_any (w1.heap.size + 1 + 1) s l (w1.heap.size + 1) (.pointer none) (.pointer none) _ _ hS4 (blk_alloc_at _ _ _ (by simp)) (by omega) (by omega)).mono ?_
    rintro e w3 ⟨L, q, rfl, rfl, rfl, hT3, hv3, hq3, t3, gv, gr, gm⟩
    have d1 := cell_of_row w3 _ 1 _ _ _ hT3
    simp at d1
    have zz : w1.heap.size + 1 + 1 + 1 = (((w1.alloc (Obj.map #[] 0)).alloc (Obj.cells #[Value.map (some w1.heap.size)] 112)).alloc (Obj.cells #[Value.pointer (some ⟨L.s, 0, none⟩), .pointer none, .pointer (some ⟨w1.heap.size + 1, 0, none⟩), .pointer none] 34)).heap.size := by simp
    have tb : Below w.heap.size w w3 := by
      refine t1.trans ((((((Below.refl _ w1).alloc z1 _).alloc (by simp; omega) _).alloc (by simp; omega) _)).trans ((t3.below (B := w1.heap.size) (by rw [← zz]; omega) (fun i q => by have : i = w1.heap.size + 1 + 1 := q; omega)).mono z1))
    clear hS3 hS4 hcl
    go_wp2_with fail
    go_ret
    obtain ⟨r, m, h1, h2, h3, h4, h5, h6, h7⟩ := hq3
    exact ⟨_, _, q, L, rfl, hT3, hv3, ⟨r, m, h1, h2, h3, by omega, by omega, by omega, h7⟩, tb, by omega, by omega, by omega, by omega, by omega, by omega, by omega⟩
end Go.Proofs.YtfcgkjbifnhjjaaGreatDoor.St
