/- The contract of key.Place: the place of a key among all objects. -/
import Derived.Test.YtfcgkjbifnhjjaaKey
import Derived.Test.YtfcgkjbifnhjjaaMap
namespace Go.Proofs.Ytfcgkjbifnhjjaa.St
open Go.RowKit
set_option linter.unusedVariables false

theorem kind_range {k n : Int} (h1 : 0 ≤ n) (h2 : n < manyI k) : 1 ≤ k ∧ k ≤ 12 := by
  unfold manyI at h2
  split at h2
  · omega
  · split at h2
    · omega
    · split at h2
      · omega
      · split at h2
        · omega
        · split at h2 <;> omega

theorem ahead_range {k : Int} (h1 : 1 ≤ k) (h2 : k ≤ 12) : 0 ≤ aheadI k ∧ aheadI k ≤ 208 := by
  have := ahead_bounds k.toNat (by omega)
  unfold aheadI
  omega

theorem place_neg (k n : Int) (h : n < 0) (w : World) :
    Calls Try.prog 66 #[keyV k n] w fun e w' => e = .returned (.int .i64 (-1)) ∧ Below w.heap.size w w' := by
  go_enter Try.func66, Try.ntmps66
  go_wp2
  go_quiet (fail)
  go_wp2
  go_ret
  exact ⟨rfl, below_drewN ((Below.refl _ _).alloc (Nat.le_refl _) _) _⟩

theorem place_over (k n : Int) (h : 0 ≤ n) (h2 : manyI k ≤ n) (w : World) :
    Calls Try.prog 66 #[keyV k n] w fun e w' => e = .returned (.int .i64 (-1)) ∧ Below w.heap.size w w' := by
  have hd : decide (n < 0) = false := decide_eq_false (by omega)
  have hd2 : decide (manyI k ≤ n) = true := decide_eq_true h2
  clear h2
  go_enter Try.func66, Try.ntmps66
  go_wp2
  go_quiet ((go_at_call 76; exact quiet_left (many_any _ _)))
  go_wp2
  go_ret
  exact ⟨rfl, below_drewN ((Below.refl _ _).alloc (Nat.le_refl _) _) _⟩

theorem place_yes (k n : Int) (h : 0 ≤ n) (h2 : n < manyI k) (w : World) :
    Calls Try.prog 66 #[keyV k n] w fun e w' => e = .returned (.int .i64 (aheadI k + n)) ∧ Below w.heap.size w w' := by
  have hd : decide (n < 0) = false := decide_eq_false (by omega)
  have hd2 : decide (manyI k ≤ n) = false := decide_eq_false (by omega)
  obtain ⟨k1, k2⟩ := kind_range h h2
  have hb := many_bounds k
  have ha := ahead_range k1 k2
  have hn : n ≤ 16 := by omega
  have k3 : k ≤ 13 := by omega
  clear h2 hb
  go_enter Try.func66, Try.ntmps66
  go_wp2
  go_quiet ((go_at_call 76; exact quiet_left (many_any _ _)))
  go_wp2
  go_quiet ((go_at_call 75; exact quiet_add (ahead_any k k1 k3 _)))
  go_wp2
  go_ret
  exact ⟨rfl, below_drewN (below_drewN ((Below.refl _ _).alloc (Nat.le_refl _) _) _) _⟩

theorem place_any (k n : Int) (w : World) :
    Calls Try.prog 66 #[keyV k n] w fun e w' => e = .returned (.int .i64 (placeI k n)) ∧ Below w.heap.size w w' := by
  unfold placeI
  by_cases h1 : n < 0
  · rw [if_pos (Or.inl h1)]; exact place_neg k n h1 w
  · by_cases h2 : manyI k ≤ n
    · rw [if_pos (Or.inr h2)]; exact place_over k n (by omega) h2 w
    · rw [if_neg (by omega)]; exact place_yes k n (by omega) (by omega) w

/-- A key's place is one of 55. -/
theorem place_range (k n : Int) (h : 0 ≤ placeI k n) : 0 ≤ n ∧ n < manyI k ∧ 1 ≤ k ∧ k ≤ 12 ∧ placeI k n = aheadI k + n := by
  unfold placeI at h ⊢
  by_cases c : n < 0 ∨ manyI k ≤ n
  · rw [if_pos c] at h; omega
  · rw [if_neg c] at h ⊢
    have h1 : 0 ≤ n := by omega
    have h2 : n < manyI k := by omega
    obtain ⟨k1, k2⟩ := kind_range h1 h2
    exact ⟨h1, h2, k1, k2, rfl⟩

end Go.Proofs.Ytfcgkjbifnhjjaa.St
