/- FpuInts returns true for any number and any word below 2^64: the walk. No other condition. -/
import Derived.Test.YtdkofonpkbjjmaaFpInts
namespace Go.Proofs.Ytdkofonpkbjjmaa.Fp
open Go.RowKit
set_option linter.unusedVariables false

theorem intLit1 (w : World) : Calls Try.prog 11 #[.int .u64 9218868437227405312] w fun e w' => e = .returned (.tuple #[.int .i64 9223372036854775807, .bool false]) ∧ w = w' := by
  have h := int_all 9218868437227405312 (by decide) w
  rw [show intN 9218868437227405312 = (9223372036854775807, false) from by decide +kernel] at h
  exact h
theorem intLit2 (w : World) : Calls Try.prog 11 #[.int .u64 18442240474082181120] w fun e w' => e = .returned (.tuple #[.int .i64 (-9223372036854775808), .bool false]) ∧ w = w' := by
  have h := int_all 18442240474082181120 (by decide) w
  rw [show intN 18442240474082181120 = (-9223372036854775808, false) from by decide +kernel] at h
  exact h
theorem intLit3 (w : World) : Calls Try.prog 11 #[.int .u64 14114281232179134464] w fun e w' => e = .returned (.tuple #[.int .i64 (-9223372036854775808), .bool true]) ∧ w = w' := by
  have h := int_all 14114281232179134464 (by decide) w
  rw [show intN 14114281232179134464 = (-9223372036854775808, true) from by decide +kernel] at h
  exact h
theorem intLit4 (w : World) : Calls Try.prog 11 #[.int .u64 4890909195324358656] w fun e w' => e = .returned (.tuple #[.int .i64 9223372036854775807, .bool false]) ∧ w = w' := by
  have h := int_all 4890909195324358656 (by decide) w
  rw [show intN 4890909195324358656 = (9223372036854775807, false) from by decide +kernel] at h
  exact h
theorem op_add_half (y : Nat) (hy : y < 18446744073709551616) (w : World) :
    Calls Try.prog 12 #[.int .i64 1, .int .u64 (y : Int), .int .u64 4602678819172646912] w fun e w' => e = .returned (.int .u64 (opN 1 y 4602678819172646912 : Nat)) ∧ ∃ n, w.drewN n = w' :=
  op_any 1 y 4602678819172646912 hy (by decide) w
theorem of_low : ofN (-9223372036854775808) = 14114281232179134464 := by decide +kernel
theorem of_top : ofN 9223372036854775807 = 4890909195324358656 := by decide +kernel

def nanPart (p : Nat) : Nat := 9221120237041090560 ||| (p &&& 2251799813685247)
theorem nanPart_lt (p : Nat) : nanPart p < 18446744073709551616 := by
  have h1 : p &&& 2251799813685247 < 2 ^ 64 := Nat.and_lt_two_pow _ (by decide)
  have h3 : nanPart p < 2 ^ 64 := Nat.or_lt_two_pow (by decide) h1
  have e : (2 : Nat) ^ 64 = 18446744073709551616 := by decide
  rw [e] at h3; exact h3
theorem nanPart_bits (p : Nat) (h : p < 18446744073709551616) : bits .or .u64 9221120237041090560 (bits .and .u64 (p : Int) 2251799813685247) = ((nanPart p : Nat) : Int) := by
  have h1 : p &&& 2251799813685247 < 2 ^ 64 := Nat.and_lt_two_pow _ (by decide)
  have e : (2 : Nat) ^ 64 = 18446744073709551616 := by decide
  rw [e] at h1
  have a1 : bits .and .u64 (p : Int) 2251799813685247 = ((p &&& 2251799813685247 : Nat) : Int) := u64_and_nat p 2251799813685247 h (by decide)
  rw [a1]
  exact u64_or_nat 9221120237041090560 _ (by decide) h1
theorem nanPart_int (p : Nat) : intN (nanPart p) = (0, false) := by
  have h2 : p &&& 2251799813685247 < 2 ^ 63 := Nat.and_lt_two_pow _ (by decide)
  have h3 : nanPart p < 2 ^ 63 := Nat.or_lt_two_pow (by decide) h2
  have e : (2 : Nat) ^ 63 = 9223372036854775808 := by decide
  rw [e] at h3
  have h4 : 9221120237041090560 ≤ nanPart p := Nat.left_le_or
  have hn : nanN (nanPart p) = true := by
    unfold nanN magN
    rw [Nat.mod_eq_of_lt h3]
    exact decide_eq_true (by omega)
  unfold intN; rw [hn]; rfl

attribute [local irreducible] Int.lt Int.le cleanN opN intN ofN withinI nanPart

theorem ints_walk (n k h y : Int) (p K H O N : Nat) (hp : p < 18446744073709551616)
    (hk : withinI n (-9007199254740992) 9007199254740992 = k) (hh : withinI n (-1099511627776) 1099511627776 = h)
    (hK : ofN k = K) (hKl : K < 18446744073709551616) (hH : ofN h = H) (hHl : H < 18446744073709551616) (hO : opN 1 H 4602678819172646912 = O) (hOl : O < 18446744073709551616)
    (ik : intN K = (k, true)) (io : intN O = (y, true)) (hy : 0 ≤ h ∧ y = h ∨ h < 0 ∧ y = h + 1) (hb1 : -1099511627776 ≤ h) (hb2 : h ≤ 1099511627776)
    (hN : bits .or .u64 9221120237041090560 (bits .and .u64 (p : Int) 2251799813685247) = (N : Int)) (hNl : N < 18446744073709551616) (iN : intN N = (0, false))
    (l1 : ofN (-9223372036854775808) = 14114281232179134464) (l2 : ofN 9223372036854775807 = 4890909195324358656) (w : World) :
    Calls Try.prog 10 #[.int .i64 n, .int .u64 (p : Int)] w fun e w' => e = .returned (.bool true) ∧ ∃ n, w.drewN n = w' := by
  rcases hy with ⟨h1, rfl⟩ | ⟨h1, rfl⟩
  all_goals
    go_enter Try.func10, Try.ntmps10
    go_wp2_with fail
    refine (within_any _ _ _ (by decide) (by decide) (by decide) _).mono ?_; rintro e w' ⟨rfl, rfl⟩
    go_wp2_with fail
    refine (of_any _ _).mono ?_; rintro e w' ⟨rfl, rfl⟩
    go_wp2_with fail
    refine (int_all _ hKl _).mono ?_; rintro e w' ⟨rfl, rfl⟩
    go_wp2_with fail
    refine (within_any _ _ _ (by decide) (by decide) (by decide) _).mono ?_; rintro e w' ⟨rfl, rfl⟩
    go_wp2_with fail
    refine (of_any _ _).mono ?_; rintro e w' ⟨rfl, rfl⟩
    go_wp2_with fail
    refine (op_add_half _ hHl _).mono ?_; rintro e w' ⟨rfl, n1, rfl⟩
    go_wp2_with fail
    refine (int_all _ hOl _).mono ?_; rintro e w' ⟨rfl, rfl⟩
    go_wp2_with fail
    refine (intLit1 _).mono ?_; rintro e w' ⟨rfl, rfl⟩
    go_wp2_with fail
    refine (intLit2 _).mono ?_; rintro e w' ⟨rfl, rfl⟩
    go_wp2_with fail
    refine (int_all _ hNl _).mono ?_; rintro e w' ⟨rfl, rfl⟩
    go_wp2_with fail
    refine (of_any _ _).mono ?_; rintro e w' ⟨rfl, rfl⟩
    go_wp2_with fail
    refine (intLit3 _).mono ?_; rintro e w' ⟨rfl, rfl⟩
    go_wp2_with fail
    refine (of_any _ _).mono ?_; rintro e w' ⟨rfl, rfl⟩
    go_wp2_with fail
    refine (intLit4 _).mono ?_; rintro e w' ⟨rfl, rfl⟩
    go_wp2_with fail
    refine (runs_any _).mono ?_; rintro e w' ⟨rfl, n, rfl⟩
    go_wp2_with fail
    go_ret
    exact ⟨rfl, _, rfl⟩

theorem ints_any (n : Int) (p : Nat) (hp : p < 18446744073709551616) (w : World) :
    Calls Try.prog 10 #[.int .i64 n, .int .u64 (p : Int)] w fun e w' => e = .returned (.bool true) ∧ ∃ n, w.drewN n = w' := by
  have b1 := within_bounds n (-9007199254740992) 9007199254740992 (by decide)
  have b2 := within_bounds n (-1099511627776) 1099511627776 (by decide)
  have ih := int_half b2.1 b2.2
  have hy : 0 ≤ withinI n (-1099511627776) 1099511627776 ∧ (if 0 ≤ withinI n (-1099511627776) 1099511627776 then withinI n (-1099511627776) 1099511627776 else withinI n (-1099511627776) 1099511627776 + 1) = withinI n (-1099511627776) 1099511627776 ∨
      withinI n (-1099511627776) 1099511627776 < 0 ∧ (if 0 ≤ withinI n (-1099511627776) 1099511627776 then withinI n (-1099511627776) 1099511627776 else withinI n (-1099511627776) 1099511627776 + 1) = withinI n (-1099511627776) 1099511627776 + 1 := by
    by_cases h : 0 ≤ withinI n (-1099511627776) 1099511627776
    · left; exact ⟨h, if_pos h⟩
    · right; exact ⟨by omega, if_neg h⟩
  exact ints_walk n _ _ _ p _ _ _ _ hp rfl rfl rfl (ofN_lt _) rfl (ofN_lt _) rfl (opN_lt 1 (ofN_lt _) (by decide)) (int_back b1.1 b1.2) ih hy b2.1 b2.2 (nanPart_bits p hp) (nanPart_lt p) (nanPart_int p) of_low of_top w

end Go.Proofs.Ytdkofonpkbjjmaa.Fp
