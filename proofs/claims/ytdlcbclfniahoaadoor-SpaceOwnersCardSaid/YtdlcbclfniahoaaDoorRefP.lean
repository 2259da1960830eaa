/- The contracts of the document's own Place, and of its Store.Put. No condition but those written in each statement. -/
import Derived.Test.YtdlcbclfniahoaaDoorPutS
import Derived.Maps.OwnSet
namespace Go.Proofs.YtdlcbclfniahoaaDoor.St
open Go.RowKit
set_option linter.unusedVariables false

def ml : List Int := [1, 1, 1, 8, 1, 12, 1, 4, 1, 16, 1, 8]
def mlA : Array Value := #[.int .i64 1, .int .i64 1, .int .i64 1, .int .i64 8, .int .i64 1, .int .i64 12, .int .i64 1, .int .i64 4, .int .i64 1, .int .i64 16, .int .i64 1, .int .i64 8]
theorem upto12 {p : Nat → Prop} (h : p 0 ∧ p 1 ∧ p 2 ∧ p 3 ∧ p 4 ∧ p 5 ∧ p 6 ∧ p 7 ∧ p 8 ∧ p 9 ∧ p 10 ∧ p 11) : ∀ n, n < 12 → p n := by
  intro n hn
  obtain ⟨h0, h1, h2, h3, h4, h5, h6, h7, h8, h9, h10, h11⟩ := h
  have : n = 0 ∨ n = 1 ∨ n = 2 ∨ n = 3 ∨ n = 4 ∨ n = 5 ∨ n = 6 ∨ n = 7 ∨ n = 8 ∨ n = 9 ∨ n = 10 ∨ n = 11 := by omega
  rcases this with rfl | rfl | rfl | rfl | rfl | rfl | rfl | rfl | rfl | rfl | rfl | rfl <;> assumption
theorem ml_cell (j : Nat) (h : j < 12) : mlA[j]? = some (.int .i64 (ml.getD j 0)) := by
  revert h; revert j; apply upto12; exact ⟨rfl, rfl, rfl, rfl, rfl, rfl, rfl, rfl, rfl, rfl, rfl, rfl⟩
theorem ml_many (j : Nat) (h : j < 12) : manyI ((j : Int) + 1) = ml.getD j 0 := by
  revert h; revert j; apply upto12; exact ⟨by decide, by decide, by decide, by decide, by decide, by decide, by decide, by decide, by decide, by decide, by decide, by decide⟩
theorem ml_pos (j : Nat) (h : j < 12) : 1 ≤ ml.getD j 0 ∧ ml.getD j 0 ≤ 16 := by
  revert h; revert j; apply upto12; exact ⟨by decide, by decide, by decide, by decide, by decide, by decide, by decide, by decide, by decide, by decide, by decide, by decide⟩
/-- The sum of the first ones. -/
def mlS : Nat → Int
  | 0 => 0
  | n + 1 => mlS n + ml.getD n 0
theorem mlS_bounds (n : Nat) (h : n ≤ 12) : 0 ≤ mlS n ∧ mlS n ≤ 16 * n := by
  induction n with
  | zero => exact ⟨by decide, by decide⟩
  | succ n ih =>
    have := ih (by omega)
    have := ml_pos n (by omega)
    rw [mlS]; omega
theorem kind_at (j : Nat) (h : j < 12) (i : Int) (h0 : 0 ≤ i) (h1 : i < ml.getD j 0) : placeI ((j : Int) + 1) i = aheadI ((j : Int) + 1) + i := by
  unfold placeI; rw [ml_many j h, if_neg (by omega)]
theorem kind_out (j : Nat) (h : j < 12) (i : Int) (h0 : i < 0 ∨ ml.getD j 0 ≤ i) : placeI ((j : Int) + 1) i = -1 := by
  unfold placeI; rw [ml_many j h, if_pos (by omega)]
theorem blk_kept {W W' : World} {b : Nat} {o : Obj} (h : blk W b = some o) (t : Below W.heap.size W W') : blk W' b = some o := blk_below t h (blk_lt h)
theorem sizes_any (w : World) : Calls Tryd.prog 55 #[] w fun e w' => ∃ B, e = .returned (.slice (some ⟨B, 0, none⟩) 12 12) ∧ blk w' B = some (.cells mlA 3 (0, 0)) ∧ Below w.heap.size w w' := by
  go_enter Tryd.func55, Tryd.ntmps55
  go_wp2_with fail
  go_ret
  exact ⟨w.heap.size, rfl, blk_alloc_at _ _ _ rfl, (Below.refl _ _).alloc (Nat.le_refl _) _⟩

attribute [local irreducible] Int.lt Int.le
set_option maxRecDepth 100000 in
theorem ml_sum (n : Nat) (h : n ≤ 12) : mlS n = aheadI ((n : Int) + 1) := by
  have : n = 0 ∨ n = 1 ∨ n = 2 ∨ n = 3 ∨ n = 4 ∨ n = 5 ∨ n = 6 ∨ n = 7 ∨ n = 8 ∨ n = 9 ∨ n = 10 ∨ n = 11 ∨ n = 12 := by omega
  rcases this with rfl | rfl | rfl | rfl | rfl | rfl | rfl | rfl | rfl | rfl | rfl | rfl | rfl <;> decide
theorem kind_none' (k n : Int) (h : k < 1 ∨ 12 < k) : placeI k n = -1 := by
  unfold placeI
  rw [if_pos]
  by_cases hn : n < 0
  · exact Or.inl hn
  · right
    unfold manyI
    rw [if_neg (by omega), if_neg (by omega), if_neg (by omega), if_neg (by omega), if_pos h]
    omega

set_option maxRecDepth 100000 in
theorem rplace_any (k m : Int) (hk : k ≤ 9223372036854775807) (w : World) : Calls Tryd.prog 47 #[.agg #[.int .i64 k, .int .i64 m]] w fun e w' => e = .returned (.int .i64 (placeI k m)) ∧ Below w.heap.size w w' := by
  go_enter Tryd.func47, Tryd.ntmps47
  go_wp2_with fail
  have k0 : blk (w.alloc (Obj.cells #[Value.int IntKind.i64 k, Value.int IntKind.i64 m] 48)) w.heap.size = some (.cells #[.int .i64 k, .int .i64 m] 48 (0, 0)) := blk_alloc_at _ _ _ rfl
  have u0 : Below w.heap.size w (w.alloc (Obj.cells #[Value.int IntKind.i64 k, Value.int IntKind.i64 m] 48)) := (Below.refl _ _).alloc (Nat.le_refl _) _
  generalize w.alloc (Obj.cells #[Value.int IntKind.i64 k, Value.int IntKind.i64 m] 48) = W0 at *
  obtain ⟨G, hG⟩ : ∃ G, G = w.heap.size := ⟨_, rfl⟩
  rw [← hG] at k0
  simp only [← hG]
  refine (sizes_any _).mono ?_; rintro e W1 ⟨B, rfl, k1, u1⟩
  have k01 := blk_kept k0 u1
  have g0 := cell_of_row W1 G 0 _ _ _ k01
  have g1 := cell_of_row W1 G 1 _ _ _ k01
  simp at g0 g1
  have bel2 := u0.trans (u1.mono u0.size)
  have hc : ∀ j, j < 12 → W1.cell? ⟨B, j, none⟩ = some (.int .i64 (ml.getD j 0)) := fun j hj => (cell_of_row W1 B j _ _ _ k1).trans (ml_cell j hj)
  clear k1 k0 k01 u0 u1 hG
  go_wp2_with fail
  go_loop [3, 8] (fun s i => ∃ n : Nat, n ≤ 12 ∧ i = .int .i64 (n : Int) ∧ s = .int .i64 (mlS n) ∧ (k < 1 ∨ (n : Int) < k)) (fun _ i => 12 - (intOf i).toNat)
  case atStart => exact ⟨0, by omega, rfl, rfl, by omega⟩
  case round =>
    obtain ⟨n, n1, rfl, rfl, hrel⟩ := hrel
    have hb := mlS_bounds n n1
    by_cases hn : n < 12
    · have l1 : (n : Int) < 12 := by omega
      have l0 : (0 : Int) ≤ (n : Int) := by omega
      have hp := ml_pos n hn
      have c5 := hc n hn
      by_cases he : k = (n : Int) + 1
      · have hpl : (m < 0 ∧ placeI k m = -1) ∨ (¬ m < 0 ∧ ml.getD n 0 ≤ m ∧ placeI k m = -1) ∨ (¬ m < 0 ∧ ¬ ml.getD n 0 ≤ m ∧ placeI k m = mlS n + m) := by
          rw [he]
          by_cases a : m < 0
          · exact Or.inl ⟨a, kind_out n hn m (Or.inl a)⟩
          · by_cases b : ml.getD n 0 ≤ m
            · exact Or.inr (Or.inl ⟨a, b, kind_out n hn m (Or.inr b)⟩)
            · exact Or.inr (Or.inr ⟨a, b, by rw [kind_at n hn m (by omega) (by omega), ml_sum n n1]⟩)
        clear hc hrel
        subst he
        generalize ml.getD n 0 = Q at *
        generalize mlS n = T at *
        rcases hpl with ⟨a, hr⟩ | ⟨a, b, hr⟩ | ⟨a, b, hr⟩
        all_goals
          have Hr := Lib.hid hr
          clear hr
          go_wp2_with fail
          go_ret
          exact ⟨by rw [Hr.out]; rfl, bel2⟩
      · have hs : mlS (n + 1) = mlS n + ml.getD n 0 := rfl
        have Hs := Lib.hid hs
        have hrel2 : k < 1 ∨ ((n + 1 : Nat) : Int) < k := by omega
        have n7 : (k == (n : Int) + 1) = false := beq_eq_false_iff_ne.2 he
        clear hs hc hrel
        generalize ml.getD n 0 = Q at *
        go_wp2_with fail
        exact ⟨⟨n + 1, by omega, by go_num, by rw [Hs.out], hrel2⟩, by simp [intOf]; omega⟩
    · obtain rfl : n = 12 := by omega
      have hpl := kind_none' k m (by omega)
      have Hr := Lib.hid hpl
      clear hc hb hpl hrel
      go_wp2_with fail
      go_ret
      exact ⟨by rw [Hr.out]; rfl, bel2⟩


theorem place_ge (k m : Int) : -1 ≤ placeI k m := by
  by_cases hk : k < 1 ∨ 12 < k
  · rw [kind_none' k m hk]; exact Int.le_refl _
  · obtain ⟨n, hn⟩ : ∃ n : Nat, k = (n : Int) + 1 := ⟨(k - 1).toNat, by omega⟩
    have h1 := ml_sum n (by omega)
    have h2 := mlS_bounds n (by omega)
    rw [hn]
    unfold placeI
    split
    · exact Int.le_refl _
    · omega
theorem place_wf (k m : Int) : (Lit.int .i64 (placeI k m)).wf = true := by
  have h1 := place_lt k m
  have h2 := place_ge k m
  apply WalkArith.wf_i64 <;> omega
section
open Go.Maps
/-- The document's store in memory: a map keyed by places. -/
def RSt (W : World) (d r : Nat) (n : Nat) : Prop := blk W d = some (.cells #[.map (some r)] 102 (0, 0)) ∧ ∃ D : DataW Unit, W.ownsMap Tryd.prog 3 (fun _ => some (.lit (.bool true), [])) r n D
theorem rint_law : Keyed Tryd.prog 3 := int_keyed Tryd.underlying3
theorem RSt.turn {S : Nat → Prop} {W W' : World} {d r n : Nat} (h : RSt W d r n) (t : Turn S W W') (hd : ¬ S d) (hr : ¬ S r) : RSt W' d r n := by
  obtain ⟨h1, D, es, ck, h2, h3⟩ := h
  exact ⟨blk_of_turn t h1 hd, D, es, ck, blk_of_turn t h2 hr, h3⟩
theorem RSt.lt {W : World} {d r n : Nat} (h : RSt W d r n) : d < W.heap.size ∧ r < W.heap.size ∧ d ≠ r := by
  obtain ⟨h1, D, es, ck, h2, h3⟩ := h
  exact ⟨blk_lt h1, blk_lt h2, cells_ne_map h1 h2⟩
theorem RSt.put {W : World} {d r n : Nat} (h : RSt W d r n) (hn : n ≤ 1000) (k m : Int) (x : Value) :
    ∃ W', (Instr.mapUpdate 100 (.map (some r)) (.int .i64 (placeI k m)) x).run Tryd.prog W = .ok () W' ∧ RSt W' d r (n + 1) ∧ Turn (· = r) W W' := by
  have hdr := h.lt.2.2
  obtain ⟨h1, D, hD⟩ := h
  obtain ⟨W', hrun, hown, ht⟩ := hD.update (d := .lit (.bool true)) (ps := []) rint_law Tryd.underlying100 (by unfold maxLen; omega) (keyOf_int_mk Tryd.underlying3 (place_wf k m)) (val := x) rfl
  have t : Turn (· = r) W W' := ⟨ht.os, ht.tape, ht.output, ht.size, fun i hi hne => ht.block i hi (fun e => hne (by simpa using e))⟩
  exact ⟨W', hrun, ⟨blk_of_turn t h1 hdr, _, hown⟩, t⟩
end
attribute [local go_sem] blk_alloc_at blk_alloc_past blk_drew blk_drewN blk_setB_same blk_setB_other blk_setRow_other setRow_alloc_at setRow_alloc_past setRow_drewN setRow_drew setB_size setB_cell setB_frozen setB_alloc_past setB_drewN setB_drew run_loadV loadOr_cells run_storeV storeOr_cells cells_size ones_cells cells_0 cells_1 cells_2 cells_16
attribute [local go_sem ↓] execOp_loadV execOp_storeV
attribute [local go_sem ↓] wp_at0 wp_at1 wp_at2 wp_at3 wp_at4 wp_at5 wp_at6 wp_at7
set_option maxRecDepth 100000 in
set_option maxHeartbeats 1000000 in
theorem rput_any (d r n : Nat) (k m : Int) (x : Val) (hk : k ≤ 9223372036854775807) (hp : 0 ≤ placeI k m) (hn : n ≤ 1000) (w : World) (hR : RSt w d r n) :
    Calls Tryd.prog 33 #[.pointer (some ⟨d, 0, none⟩), keyV k m, .agg x.cells] w fun e w' => e = .returned (.bool true) ∧ RSt w' d r (n + 1) ∧ Turn (· = r) w w' := by
  have l0 := hR.lt
  have hpd : decide (placeI k m < 0) = false := decide_eq_false (by omega)
  go_enter Tryd.func33, Tryd.ntmps33
  go_wp2_with fail
  refine (rplace_any k m hk _).mono ?_; rintro e w1 ⟨rfl, hb⟩
  obtain ⟨h1, h2, h3, h4, h5⟩ := after2 hb
  have R1 := hR.turn (Turn.of_below h5 (fun _ => False)) (fun q => q) (fun q => q)
  have t1 := Turn.of_below h5 (· = r)
  go_upto_region 3 with fail
  have R1d : RSt w1.drew d r n := R1.turn (Turn.refl (fun _ => False) w1).drew (fun q => q) (fun q => q)
  have t1d := t1.drew
  have bk : blk w1.drew w.heap.size = some (.cells #[.int .i64 k, .int .i64 m] 48 (0, 0)) := (blk_drew _ _).trans h1
  have bx : blk w1.drew (w.heap.size + 1) = some (.cells x.cells 45 (0, 0)) := (blk_drew _ _).trans h2
  have e0 : w1.drew.cell? ⟨d, 0, none⟩ = some (.map (some r)) := cell_of_row _ _ 0 _ _ _ R1d.1
  have e1 := key_cells bk
  have e2 := e1.2
  replace e1 := e1.1
  have s1 : w.heap.size + 2 ≤ w1.drew.heap.size := h4
  clear h1 h2 h3 h5 hb R1 t1
  go_region_with (first
    | (go_at_call 47; refine (rplace_any k m hk _).mono ?_; rintro e w2 ⟨rfl, t2⟩; have R2 := R1d.turn (Turn.of_below t2 (fun _ => False)) (fun q => q) (fun q => q); have bx2 := blk_below t2 bx (by omega); have g0 : w2.cell? ⟨d, 0, none⟩ = some (.map (some r)) := cell_of_row _ _ 0 _ _ _ R2.1; have tt := t1d.trans (Turn.of_below t2 _); obtain ⟨W3, hrun, R3, t3⟩ := R2.put hn k m (.agg x.cells)))
  all_goals
    clear e0 e1 e2 bk bx R1d t1d
    go_wp2_with fail
    go_ret
    exact ⟨rfl, R3, tt.trans t3⟩
end Go.Proofs.YtdlcbclfniahoaaDoor.St
