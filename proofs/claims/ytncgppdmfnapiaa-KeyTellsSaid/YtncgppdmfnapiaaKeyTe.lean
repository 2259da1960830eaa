/- The walk of cloisterlaw7.KeyTells. No condition but those written in the statement. -/
import Derived.Test.YtncgppdmfnapiaaKeyRf
import Derived.Deep.RegionHeld3
import Derived.Deep.DrawnRows
import Derived.Deep.Cut
namespace Go.Proofs.Ytncgppdmfnapiaa.St
open Go.RowKit
set_option linter.unusedVariables false

theorem wf_bounds {n : Int} (h : (Lit.int .i64 n).wf = true) : -9223372036854775808 ≤ n ∧ n ≤ 9223372036854775807 := by
  have h1 : IntKind.i64.min = -9223372036854775808 := rfl
  have h2 : IntKind.i64.max = 9223372036854775807 := rfl
  simp only [Lit.wf, Bool.and_eq_true, decide_eq_true_eq] at h
  omega

abbrev KTe (w : World) (B0 B1 B2 : Nat) (k m A C : Int) (W : World) : Prop := W.cell? ⟨B0, 0, none⟩ = some (.int .i64 k) ∧ W.cell? ⟨B0, 1, none⟩ = some (.int .i64 m) ∧ W.cell? ⟨B1, 0, none⟩ = some (.int .i64 A) ∧ W.cell? ⟨B1, 1, none⟩ = some (.int .i64 C) ∧ W.cell? ⟨B2, 0, none⟩ = some (.int .i64 A) ∧ W.cell? ⟨B2, 1, none⟩ = some (.int .i64 C) ∧ Below w.heap.size w W
theorem kte_below {w : World} {B0 B1 B2 : Nat} {k m A C : Int} {W W' : World} (h : KTe w B0 B1 B2 k m A C W) (hb : Below W.heap.size W W') : KTe w B0 B1 B2 k m A C W' := by
  obtain ⟨a, b, c, d, e, f, g⟩ := h
  exact ⟨(hb.cell (cell_block_lt a)).trans a, (hb.cell (cell_block_lt b)).trans b, (hb.cell (cell_block_lt c)).trans c, (hb.cell (cell_block_lt d)).trans d, (hb.cell (cell_block_lt e)).trans e, (hb.cell (cell_block_lt f)).trans f, g.trans (hb.mono g.size)⟩

attribute [local irreducible] Int.lt Int.le
attribute [local go_sem ↓] Go.wp_at_zero Go.wp_at_succ
set_option maxRecDepth 100000 in
set_option maxHeartbeats 4000000 in
theorem keyTells_walk (k m : Int) (a1 : Int) (w : World) (wk : (Lit.int .i64 k).wf = true) (wm : (Lit.int .i64 m).wf = true) (w1 : (Lit.int .i64 a1).wf = true) :
    Calls Try.prog 4 #[.agg #[.int .i64 k, .int .i64 m], .int .i64 a1] w fun e w' => e = .returned (.bool true) ∧ Below w.heap.size w w' := by
  have bk := wf_bounds wk
  have ba := wf_bounds w1
  clear wk wm w1
  have hat := fun W => at_any a1 ba.2 W
  have hrt := fun W => rat_any a1 ba.1 ba.2 W
  have hpl := fun W => place_any k m W
  have hrp := fun W => rplace_any k m bk.2 W
  clear bk ba
  rw [show atV a1 = .agg #[.int .i64 ((atK a1).getD (0, 0)).1, .int .i64 ((atK a1).getD (0, 0)).2] from rfl] at hat hrt
  generalize ((atK a1).getD (0, 0)).1 = A at *
  generalize ((atK a1).getD (0, 0)).2 = C at *
  generalize (atK a1).isSome = D at *
  generalize placeI k m = P at *
  have Hat := Lib.hid hat
  have Hrt := Lib.hid hrt
  have Hpl := Lib.hid hpl
  have Hrp := Lib.hid hrp
  clear hat hrt hpl hrp
  go_enter Try.func4, Try.ntmps4
  go_wp2_with fail
  have k0 : blk (w.alloc (Obj.cells #[Value.int IntKind.i64 k, Value.int IntKind.i64 m] 23)) w.heap.size = some (.cells #[.int .i64 k, .int .i64 m] 23 (0, 0)) := blk_alloc_at _ _ _ rfl
  have u0 : Below w.heap.size w (w.alloc (Obj.cells #[Value.int IntKind.i64 k, Value.int IntKind.i64 m] 23)) := (Below.refl _ _).alloc (Nat.le_refl _) _
  generalize w.alloc (Obj.cells #[Value.int IntKind.i64 k, Value.int IntKind.i64 m] 23) = W0 at *
  obtain ⟨B0, hB0⟩ : ∃ B, B = w.heap.size := ⟨_, rfl⟩
  rw [← hB0] at k0
  simp only [← hB0]
  clear hB0
  refine (Hat.out _).mono ?_; rintro e W1 ⟨rfl, t1⟩
  have k01 := blk_kept k0 t1
  have u1 := u0.trans (t1.mono u0.size)
  clear k0 u0 t1
  go_upto_region 2 with fail
  have k1 : blk (W1.alloc (Obj.cells #[Value.int IntKind.i64 A, Value.int IntKind.i64 C] 23)) W1.heap.size = some (.cells #[.int .i64 A, .int .i64 C] 23 (0, 0)) := blk_alloc_at _ _ _ rfl
  have k02 : blk (W1.alloc (Obj.cells #[Value.int IntKind.i64 A, Value.int IntKind.i64 C] 23)) B0 = some (.cells #[.int .i64 k, .int .i64 m] 23 (0, 0)) := by rw [blk_alloc_past _ _ _ (lt_of_heap k01)]; exact k01
  have u2 := u1.alloc u1.size (Obj.cells #[Value.int IntKind.i64 A, Value.int IntKind.i64 C] 23)
  generalize W1.alloc (Obj.cells #[Value.int IntKind.i64 A, Value.int IntKind.i64 C] 23) = W2 at *
  generalize W1.heap.size = B1 at *
  clear k01 u1
  go_wp2_with fail
  refine (Hrt.out _).mono ?_; rintro e W3 ⟨rfl, t3⟩
  have k13 := blk_kept k1 t3
  have k03 := blk_kept k02 t3
  have u3 := u2.trans (t3.mono u2.size)
  clear k1 k02 u2 t3
  go_upto_region 3 with fail
  have k2 : blk (W3.alloc (Obj.cells #[Value.int IntKind.i64 A, Value.int IntKind.i64 C] 23)) W3.heap.size = some (.cells #[.int .i64 A, .int .i64 C] 23 (0, 0)) := blk_alloc_at _ _ _ rfl
  have k14 : blk (W3.alloc (Obj.cells #[Value.int IntKind.i64 A, Value.int IntKind.i64 C] 23)) B1 = some (.cells #[.int .i64 A, .int .i64 C] 23 (0, 0)) := by rw [blk_alloc_past _ _ _ (lt_of_heap k13)]; exact k13
  have k04 : blk (W3.alloc (Obj.cells #[Value.int IntKind.i64 A, Value.int IntKind.i64 C] 23)) B0 = some (.cells #[.int .i64 k, .int .i64 m] 23 (0, 0)) := by rw [blk_alloc_past _ _ _ (lt_of_heap k03)]; exact k03
  have u4 := u3.alloc u3.size (Obj.cells #[Value.int IntKind.i64 A, Value.int IntKind.i64 C] 23)
  generalize W3.alloc (Obj.cells #[Value.int IntKind.i64 A, Value.int IntKind.i64 C] 23) = W4 at *
  generalize W3.heap.size = B2 at *
  have hS : KTe w B0 B1 B2 k m A C W4 := ⟨cell_of_row _ _ 0 _ _ _ k04, cell_of_row _ _ 1 _ _ _ k04, cell_of_row _ _ 0 _ _ _ k14, cell_of_row _ _ 1 _ _ _ k14, cell_of_row _ _ 0 _ _ _ k2, cell_of_row _ _ 1 _ _ _ k2, u4⟩
  have hSd : KTe w B0 B1 B2 k m A C W4.drew := kte_below hS (below_drewN (Below.refl _ _) 1)
  clear hS k03 k13 k04 k14 k2 u3 u4
  go_region_held3 (fun W => W.cell? ⟨B0, 0, none⟩ = some (.int .i64 k) ∧ W.cell? ⟨B0, 1, none⟩ = some (.int .i64 m) ∧ W.cell? ⟨B1, 0, none⟩ = some (.int .i64 A) ∧ W.cell? ⟨B1, 1, none⟩ = some (.int .i64 C) ∧ W.cell? ⟨B2, 0, none⟩ = some (.int .i64 A) ∧ W.cell? ⟨B2, 1, none⟩ = some (.int .i64 C) ∧ Below w.heap.size w W)
    (assumption)
    (first
    | (go_at_call 13; refine (all_any _).mono ?_; rintro e Wx ⟨rfl, rfl⟩)
    | (go_at_call 18; refine (rall_any _).mono ?_; rintro e W5 ⟨rfl, t5⟩; have hS5 := kte_below (by assumption) t5)
    | (go_at_call 14; refine (Hpl.out _).mono ?_; rintro e W6 ⟨rfl, t6⟩; have hS6 := kte_below (by assumption) t6)
    | (go_at_call 19; refine (Hrp.out _).mono ?_; rintro e W7 ⟨rfl, t7⟩; have hS7 := kte_below (by assumption) t7)
    | (go_at_call 3; refine (kruns_any _).mono ?_; rintro e W8 ⟨rfl, t8⟩; have hS8 := kte_below (by assumption) t8))
  all_goals
    have bF := hS8.2.2.2.2.2.2
    clear hS8 hS7 hS6 hS5 hSd t5 t6 t7 t8
    go_wp2_with fail
    go_ret
    exact ⟨rfl, bF⟩
end Go.Proofs.Ytncgppdmfnapiaa.St
