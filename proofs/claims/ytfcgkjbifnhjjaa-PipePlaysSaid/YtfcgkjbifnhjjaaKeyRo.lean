/- The walk of cloisterlaw7.KeyRow. No condition but those written in the statement. -/
import Derived.Test.YtfcgkjbifnhjjaaKeyRu
import Derived.Test.YtfcgkjbifnhjjaaLawKit
import Derived.Test.YtfcgkjbifnhjjaaWithin
import Derived.Deep.Cut
namespace Go.Proofs.Ytfcgkjbifnhjjaa.St
open Go.RowKit
set_option linter.unusedVariables false

/-- Of the 55 places. -/
def rowOk (p : Nat) : Bool := (atK p).isSome && placeI ((atK p).getD (0, 0)).1 ((atK p).getD (0, 0)).2 == (p : Int)
def pairOk (p q : Nat) : Bool := decide (((atK p).getD (0, 0)).1 < ((atK q).getD (0, 0)).1) || (((atK p).getD (0, 0)).1 == ((atK q).getD (0, 0)).1 && decide (((atK p).getD (0, 0)).2 < ((atK q).getD (0, 0)).2))
theorem rows_ok : (List.range 55).all rowOk = true := by decide +kernel
theorem pairs_ok : (List.range 55).all (fun q => (List.range q).all fun p => pairOk p q) = true := by decide +kernel

theorem k_row_at (p : Nat) (h : p < 55) : (atK p).isSome = true ∧ placeI ((atK p).getD (0, 0)).1 ((atK p).getD (0, 0)).2 = p := by
  have := List.all_eq_true.1 rows_ok p (by simpa using h)
  unfold rowOk at this
  rw [Bool.and_eq_true] at this
  exact ⟨this.1, by simpa using this.2⟩
theorem pair_at (p q : Nat) (h : q < 55) (hp : p < q) : ((atK p).getD (0, 0)).1 < ((atK q).getD (0, 0)).1 ∨ ((atK p).getD (0, 0)).1 = ((atK q).getD (0, 0)).1 ∧ ((atK p).getD (0, 0)).2 < ((atK q).getD (0, 0)).2 := by
  have := List.all_eq_true.1 (List.all_eq_true.1 pairs_ok q (by simpa using h)) p (by simpa using hp)
  unfold pairOk at this
  rw [Bool.or_eq_true, Bool.and_eq_true] at this
  rcases this with a | ⟨a, b⟩
  · exact Or.inl (by simpa using a)
  · exact Or.inr ⟨by simpa using a, by simpa using b⟩

theorem at_row (p : Nat) (h : p < 55) (w : World) : Calls Try.prog 79 #[.int .i64 p] w fun e w' => e = .returned (.tuple #[.agg #[.int .i64 ((atK p).getD (0, 0)).1, .int .i64 ((atK p).getD (0, 0)).2], .bool true]) ∧ Below w.heap.size w w' := by
  have k := at_any p (by omega) w
  rw [(k_row_at p h).1] at k
  exact k
theorem atF_out : ∀ d : Nat, d ≤ 12 → ∀ p : Int, 55 - aheadN (13 - d) ≤ p → atF d p = none := by
  intro d
  induction d with
  | zero => intro _ p _; rfl
  | succ d ih =>
    intro hd p hp
    have hs := aheadN_succ (12 - d) (by omega)
    rw [show 12 - d + 1 = 13 - d by omega] at hs
    rw [show 13 - (d + 1) = 12 - d by omega] at hp
    have hm := many_bounds (12 - d : Nat)
    have hb : manyI (12 - d : Nat) ≤ 55 - aheadN (12 - d) := by
      have : d = 0 ∨ d = 1 ∨ d = 2 ∨ d = 3 ∨ d = 4 ∨ d = 5 ∨ d = 6 ∨ d = 7 ∨ d = 8 ∨ d = 9 ∨ d = 10 ∨ d = 11 := by omega
      rcases this with rfl | rfl | rfl | rfl | rfl | rfl | rfl | rfl | rfl | rfl | rfl | rfl <;> decide
    rw [atF, if_neg (by omega)]
    exact ih (by omega) _ (by omega)
theorem at_out (p : Int) (h : p < 0 ∨ 55 ≤ p) (h2 : p ≤ 9223372036854775807) (w : World) : Calls Try.prog 79 #[.int .i64 p] w fun e w' => e = .returned (.tuple #[.agg #[.int .i64 0, .int .i64 0], .bool false]) ∧ Below w.heap.size w w' := by
  have k := at_any p h2 w
  have e : atK p = none := by
    unfold atK
    by_cases q : p < 0
    · rw [if_pos q]
    · rw [if_neg q]; exact atF_out 12 (by omega) p (by rw [show aheadN (13 - 12) = 0 by decide]; omega)
  rw [show atV p = .agg #[.int .i64 0, .int .i64 0] by unfold atV; rw [e]; rfl, e] at k
  exact k
theorem place_row (A C : Int) (P : Int) (h : placeI A C = P) (w : World) : Calls Try.prog 66 #[.agg #[.int .i64 A, .int .i64 C]] w fun e w' => e = .returned (.int .i64 P) ∧ Below w.heap.size w w' := by
  have k := place_any A C w
  rw [h] at k
  exact k

attribute [local irreducible] Int.lt Int.le
end Go.Proofs.Ytfcgkjbifnhjjaa.St
