/- The contract of cloisterbook.Within: a number brought into lo .. hi, for bounds of at most 2^60 from nought. -/
import Derived.Test.YtfcgkjbifnhjjaaGreatDoorRows
import Derived.WalkKit
import Derived.WalkLawsBesides
import Derived.RowKit3
import Derived.Outline
import Derived.Lib.Hide
namespace Go.Proofs.YtfcgkjbifnhjjaaGreatDoor.Fp
open Go.RowKit

theorem ret_i {k : IntKind} {a b : Int} (h : a = b) : Ending.returned (.int k a) = .returned (.int k b) := by rw [h]

/-- A number brought into lo .. hi. -/
def withinI (n lo hi : Int) : Int := lo + n % (hi - lo + 1)

theorem within_bounds (n lo hi : Int) (h : lo ≤ hi) : lo ≤ withinI n lo hi ∧ withinI n lo hi ≤ hi := by
  have h1 := Int.emod_nonneg n (show hi - lo + 1 ≠ 0 by omega)
  have h2 := Int.emod_lt_of_pos n (show 0 < hi - lo + 1 by omega)
  unfold withinI; omega

theorem tmod_cases (n m : Int) (hm : 0 < m) : (0 ≤ n.tmod m ∧ n % m = n.tmod m ∧ n.tmod m < m) ∨ (n.tmod m < 0 ∧ n % m = n.tmod m + m ∧ -m < n.tmod m) := by
  have h1 := Int.emod_nonneg n (show m ≠ 0 by omega)
  have h2 := Int.emod_lt_of_pos n hm
  have h3 : n.tmod m = _ := Int.tmod_eq_emod
  by_cases c : 0 ≤ n ∨ m ∣ n
  · rw [if_pos c] at h3
    left; omega
  · rw [if_neg c] at h3
    have h4 : ((m.natAbs : Nat) : Int) = m := by omega
    rw [h4] at h3
    have h5 : n % m ≠ 0 := fun e => c (Or.inr (Int.dvd_of_emod_eq_zero e))
    right; omega

end Go.Proofs.YtfcgkjbifnhjjaaGreatDoor.Fp
