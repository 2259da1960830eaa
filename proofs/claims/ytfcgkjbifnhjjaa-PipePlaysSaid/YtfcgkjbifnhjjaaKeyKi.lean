/- The walk of cloisterlaw7.KeyKinds. No condition but those written in the statement. -/
import Derived.Test.YtfcgkjbifnhjjaaKeyRo
namespace Go.Proofs.Ytfcgkjbifnhjjaa.St
open Go.RowKit
set_option linter.unusedVariables false

def ml : List Int := [1, 1, 1, 8, 1, 12, 1, 4, 1, 16, 1, 8]
def mlA : Array Value := #[.int .i64 1, .int .i64 1, .int .i64 1, .int .i64 8, .int .i64 1, .int .i64 12, .int .i64 1, .int .i64 4, .int .i64 1, .int .i64 16, .int .i64 1, .int .i64 8]
theorem upto12 {p : Nat → Prop} (h : p 0 ∧ p 1 ∧ p 2 ∧ p 3 ∧ p 4 ∧ p 5 ∧ p 6 ∧ p 7 ∧ p 8 ∧ p 9 ∧ p 10 ∧ p 11) : ∀ n, n < 12 → p n := by
  intro n hn
  obtain ⟨h0, h1, h2, h3, h4, h5, h6, h7, h8, h9, h10, h11⟩ := h
  have : n = 0 ∨ n = 1 ∨ n = 2 ∨ n = 3 ∨ n = 4 ∨ n = 5 ∨ n = 6 ∨ n = 7 ∨ n = 8 ∨ n = 9 ∨ n = 10 ∨ n = 11 := by omega
  rcases this with rfl | rfl | rfl | rfl | rfl | rfl | rfl | rfl | rfl | rfl | rfl | rfl <;> assumption
theorem ml_cell (j : Nat) (h : j < 12) : mlA[j]? = some (.int .i64 (ml.getD j 0)) := by
  revert h; revert j; apply upto12; exact ⟨rfl, rfl, rfl, rfl, rfl, rfl, rfl, rfl, rfl, rfl, rfl, rfl⟩
theorem ml_many (j : Nat) (h : j < 12) : manyI ((j : Int) + 1) = ml.getD j 0 := by
  revert h; revert j; apply upto12; exact ⟨by decide, by decide, by decide, by decide, by decide, by decide, by decide, by decide, by decide, by decide, by decide, by decide⟩
theorem ml_pos (j : Nat) (h : j < 12) : 1 ≤ ml.getD j 0 ∧ ml.getD j 0 ≤ 16 := by
  revert h; revert j; apply upto12; exact ⟨by decide, by decide, by decide, by decide, by decide, by decide, by decide, by decide, by decide, by decide, by decide, by decide⟩
/-- The sum of the first ones. -/
def mlS : Nat → Int
  | 0 => 0
  | n + 1 => mlS n + ml.getD n 0
theorem mlS_bounds (n : Nat) (h : n ≤ 12) : 0 ≤ mlS n ∧ mlS n ≤ 16 * n := by
  induction n with
  | zero => exact ⟨by decide, by decide⟩
  | succ n ih =>
    have := ih (by omega)
    have := ml_pos n (by omega)
    rw [mlS]; omega
theorem kind_at (j : Nat) (h : j < 12) (i : Int) (h0 : 0 ≤ i) (h1 : i < ml.getD j 0) : placeI ((j : Int) + 1) i = aheadI ((j : Int) + 1) + i := by
  unfold placeI; rw [ml_many j h, if_neg (by omega)]
theorem kind_out (j : Nat) (h : j < 12) (i : Int) (h0 : i < 0 ∨ ml.getD j 0 ≤ i) : placeI ((j : Int) + 1) i = -1 := by
  unfold placeI; rw [ml_many j h, if_pos (by omega)]
theorem kind_none (k : Int) (h : k < 1 ∨ 12 < k) : placeI k 0 = -1 := by
  unfold placeI manyI
  rw [if_pos]
  right
  rw [if_neg (by omega), if_neg (by omega), if_neg (by omega), if_neg (by omega), if_pos h]
  exact Int.le_refl _

theorem blk_kept {W W' : World} {b : Nat} {o : Obj} (h : blk W b = some o) (t : Below W.heap.size W W') : blk W' b = some o := heap_kept t h

attribute [local irreducible] Int.lt Int.le
end Go.Proofs.Ytfcgkjbifnhjjaa.St
