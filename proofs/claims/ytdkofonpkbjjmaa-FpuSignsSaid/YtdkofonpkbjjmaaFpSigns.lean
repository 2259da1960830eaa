/- FpuSigns returns true for any two words below 2^64: the walk, class by class. No other condition. -/
import Derived.Test.YtdkofonpkbjjmaaFpRuns
import Derived.Test.YtdkofonpkbjjmaaFpClass
namespace Go.Proofs.Ytdkofonpkbjjmaa.Fp
open Go.RowKit
set_option linter.unusedVariables false
attribute [local irreducible] Int.lt Int.le

theorem kne {x : Nat} (h0 : 0 < x % 9223372036854775808) (h : x % 9223372036854775808 < 9218868437227405312) : (kindN x == 1) = false ∧ (kindN x == 2) = false ∧ (kindN x == 3) = false := by
  rcases kind_of_fin h0 h with h | h <;> rw [h] <;> decide

theorem signs_N (a b S : Nat) (ha : a < 18446744073709551616) (hb : b < 18446744073709551616)
    (hS : bits .and .u64 (bits .xor .u64 (a : Int) (b : Int)) 9223372036854775808 = (S : Int))
    (ha : kindN a = 1) 
    (hP : opN 3 a b = 9221120237041090560)
    (hQ : opN 4 a b = 9221120237041090560)
    (hZ : opN 2 a a = 9221120237041090560) (w : World) :
    Calls Try.prog 4 #[.int .u64 (a : Int), .int .u64 (b : Int)] w fun e w' => e = .returned (.bool true) ∧ ∃ n, w.drewN n = w' := by
  go_enter Try.func4, Try.ntmps4
  go_wp2_with (first | (go_at_call 15; refine (kind_any _ (by assumption) _).mono ?_; rintro e w' ⟨rfl, rfl⟩) | (go_at_call 12; refine (op_any _ _ _ (by assumption) (by assumption) _).mono ?_; rintro e w' ⟨rfl, n, rfl⟩) | (go_at_call 3; refine (runs_any _).mono ?_; rintro e w' ⟨rfl, n, rfl⟩))
  go_ret
  exact ⟨rfl, _, rfl⟩

theorem signs_IN (a b S : Nat) (ha : a < 18446744073709551616) (hb : b < 18446744073709551616)
    (hS : bits .and .u64 (bits .xor .u64 (a : Int) (b : Int)) 9223372036854775808 = (S : Int))
    (ha : kindN a = 2) (hb : kindN b = 1)
    (hP : opN 3 a b = 9221120237041090560)
    (hQ : opN 4 a b = 9221120237041090560)
    (hZ : opN 2 a a = 9221120237041090560) (w : World) :
    Calls Try.prog 4 #[.int .u64 (a : Int), .int .u64 (b : Int)] w fun e w' => e = .returned (.bool true) ∧ ∃ n, w.drewN n = w' := by
  go_enter Try.func4, Try.ntmps4
  go_wp2_with (first | (go_at_call 15; refine (kind_any _ (by assumption) _).mono ?_; rintro e w' ⟨rfl, rfl⟩) | (go_at_call 12; refine (op_any _ _ _ (by assumption) (by assumption) _).mono ?_; rintro e w' ⟨rfl, n, rfl⟩) | (go_at_call 3; refine (runs_any _).mono ?_; rintro e w' ⟨rfl, n, rfl⟩))
  go_ret
  exact ⟨rfl, _, rfl⟩

theorem signs_ZN (a b S F : Nat) (ha : a < 18446744073709551616) (hb : b < 18446744073709551616)
    (hS : bits .and .u64 (bits .xor .u64 (a : Int) (b : Int)) 9223372036854775808 = (S : Int))
    (ha : kindN a = 3) (hb : kindN b = 1)
    (hP : opN 3 a b = 9221120237041090560)
    (hQ : opN 4 a b = 9221120237041090560)
    (hZ : opN 2 a a = 0) (hF : bits .xor .u64 (a : Int) 9223372036854775808 = (F : Int)) (hFl : F < 18446744073709551616) (hY : opN 1 a F = 0) (w : World) :
    Calls Try.prog 4 #[.int .u64 (a : Int), .int .u64 (b : Int)] w fun e w' => e = .returned (.bool true) ∧ ∃ n, w.drewN n = w' := by
  go_enter Try.func4, Try.ntmps4
  go_wp2_with (first | (go_at_call 15; refine (kind_any _ (by assumption) _).mono ?_; rintro e w' ⟨rfl, rfl⟩) | (go_at_call 12; refine (op_any _ _ _ (by assumption) (by assumption) _).mono ?_; rintro e w' ⟨rfl, n, rfl⟩) | (go_at_call 3; refine (runs_any _).mono ?_; rintro e w' ⟨rfl, n, rfl⟩))
  go_ret
  exact ⟨rfl, _, rfl⟩

theorem signs_FN (a b S F : Nat) (ha : a < 18446744073709551616) (hb : b < 18446744073709551616)
    (hS : bits .and .u64 (bits .xor .u64 (a : Int) (b : Int)) 9223372036854775808 = (S : Int))
    (ha1 : (kindN a == 1) = false) (ha2 : (kindN a == 2) = false) (ha3 : (kindN a == 3) = false) (hb : kindN b = 1)
    (hP : opN 3 a b = 9221120237041090560)
    (hQ : opN 4 a b = 9221120237041090560)
    (hZ : opN 2 a a = 0) (hF : bits .xor .u64 (a : Int) 9223372036854775808 = (F : Int)) (hFl : F < 18446744073709551616) (hY : opN 1 a F = 0) (w : World) :
    Calls Try.prog 4 #[.int .u64 (a : Int), .int .u64 (b : Int)] w fun e w' => e = .returned (.bool true) ∧ ∃ n, w.drewN n = w' := by
  go_enter Try.func4, Try.ntmps4
  go_wp2_with (first | (go_at_call 15; refine (kind_any _ (by assumption) _).mono ?_; rintro e w' ⟨rfl, rfl⟩) | (go_at_call 12; refine (op_any _ _ _ (by assumption) (by assumption) _).mono ?_; rintro e w' ⟨rfl, n, rfl⟩) | (go_at_call 3; refine (runs_any _).mono ?_; rintro e w' ⟨rfl, n, rfl⟩))
  go_ret
  exact ⟨rfl, _, rfl⟩

theorem signs_II (a b S P : Nat) (ha : a < 18446744073709551616) (hb : b < 18446744073709551616)
    (hS : bits .and .u64 (bits .xor .u64 (a : Int) (b : Int)) 9223372036854775808 = (S : Int))
    (ha : kindN a = 2) (hb : kindN b = 2)
    (hP : opN 3 a b = P) (hPn : ((P : Int) == 9221120237041090560) = false) (hPm : ((P : Int) != 9221120237041090560) = true) (hPs : bits .and .u64 (P : Int) 9223372036854775808 = (S : Int))
    (hQ : opN 4 a b = 9221120237041090560)
    (hZ : opN 2 a a = 9221120237041090560) (w : World) :
    Calls Try.prog 4 #[.int .u64 (a : Int), .int .u64 (b : Int)] w fun e w' => e = .returned (.bool true) ∧ ∃ n, w.drewN n = w' := by
  go_enter Try.func4, Try.ntmps4
  go_wp2_with (first | (go_at_call 15; refine (kind_any _ (by assumption) _).mono ?_; rintro e w' ⟨rfl, rfl⟩) | (go_at_call 12; refine (op_any _ _ _ (by assumption) (by assumption) _).mono ?_; rintro e w' ⟨rfl, n, rfl⟩) | (go_at_call 3; refine (runs_any _).mono ?_; rintro e w' ⟨rfl, n, rfl⟩))
  go_ret
  exact ⟨rfl, _, rfl⟩

theorem signs_IZ (a b S Q : Nat) (ha : a < 18446744073709551616) (hb : b < 18446744073709551616)
    (hS : bits .and .u64 (bits .xor .u64 (a : Int) (b : Int)) 9223372036854775808 = (S : Int))
    (ha : kindN a = 2) (hb : kindN b = 3)
    (hP : opN 3 a b = 9221120237041090560)
    (hQ : opN 4 a b = Q) (hQn : ((Q : Int) == 9221120237041090560) = false) (hQm : ((Q : Int) != 9221120237041090560) = true) (hQs : bits .and .u64 (Q : Int) 9223372036854775808 = (S : Int)) (hQi : bits .or .u64 (S : Int) 9218868437227405312 = (Q : Int))
    (hZ : opN 2 a a = 9221120237041090560) (w : World) :
    Calls Try.prog 4 #[.int .u64 (a : Int), .int .u64 (b : Int)] w fun e w' => e = .returned (.bool true) ∧ ∃ n, w.drewN n = w' := by
  go_enter Try.func4, Try.ntmps4
  go_wp2_with (first | (go_at_call 15; refine (kind_any _ (by assumption) _).mono ?_; rintro e w' ⟨rfl, rfl⟩) | (go_at_call 12; refine (op_any _ _ _ (by assumption) (by assumption) _).mono ?_; rintro e w' ⟨rfl, n, rfl⟩) | (go_at_call 3; refine (runs_any _).mono ?_; rintro e w' ⟨rfl, n, rfl⟩))
  go_ret
  exact ⟨rfl, _, rfl⟩

theorem signs_IF (a b S P Q : Nat) (ha : a < 18446744073709551616) (hb : b < 18446744073709551616)
    (hS : bits .and .u64 (bits .xor .u64 (a : Int) (b : Int)) 9223372036854775808 = (S : Int))
    (ha : kindN a = 2) (hb1 : (kindN b == 1) = false) (hb2 : (kindN b == 2) = false) (hb3 : (kindN b == 3) = false)
    (hP : opN 3 a b = P) (hPn : ((P : Int) == 9221120237041090560) = false) (hPm : ((P : Int) != 9221120237041090560) = true) (hPs : bits .and .u64 (P : Int) 9223372036854775808 = (S : Int))
    (hQ : opN 4 a b = Q) (hQn : ((Q : Int) == 9221120237041090560) = false) (hQm : ((Q : Int) != 9221120237041090560) = true) (hQs : bits .and .u64 (Q : Int) 9223372036854775808 = (S : Int))
    (hZ : opN 2 a a = 9221120237041090560) (w : World) :
    Calls Try.prog 4 #[.int .u64 (a : Int), .int .u64 (b : Int)] w fun e w' => e = .returned (.bool true) ∧ ∃ n, w.drewN n = w' := by
  go_enter Try.func4, Try.ntmps4
  go_wp2_with (first | (go_at_call 15; refine (kind_any _ (by assumption) _).mono ?_; rintro e w' ⟨rfl, rfl⟩) | (go_at_call 12; refine (op_any _ _ _ (by assumption) (by assumption) _).mono ?_; rintro e w' ⟨rfl, n, rfl⟩) | (go_at_call 3; refine (runs_any _).mono ?_; rintro e w' ⟨rfl, n, rfl⟩))
  go_ret
  exact ⟨rfl, _, rfl⟩

theorem signs_ZI (a b S F : Nat) (ha : a < 18446744073709551616) (hb : b < 18446744073709551616)
    (hS : bits .and .u64 (bits .xor .u64 (a : Int) (b : Int)) 9223372036854775808 = (S : Int))
    (ha : kindN a = 3) (hb : kindN b = 2)
    (hP : opN 3 a b = 9221120237041090560)
    (hQ : opN 4 a b = S) (hSn : ((S : Int) == 9221120237041090560) = false) (hSm : ((S : Int) != 9221120237041090560) = true) (hSs : bits .and .u64 (S : Int) 9223372036854775808 = (S : Int))
    (hZ : opN 2 a a = 0) (hF : bits .xor .u64 (a : Int) 9223372036854775808 = (F : Int)) (hFl : F < 18446744073709551616) (hY : opN 1 a F = 0) (w : World) :
    Calls Try.prog 4 #[.int .u64 (a : Int), .int .u64 (b : Int)] w fun e w' => e = .returned (.bool true) ∧ ∃ n, w.drewN n = w' := by
  go_enter Try.func4, Try.ntmps4
  go_wp2_with (first | (go_at_call 15; refine (kind_any _ (by assumption) _).mono ?_; rintro e w' ⟨rfl, rfl⟩) | (go_at_call 12; refine (op_any _ _ _ (by assumption) (by assumption) _).mono ?_; rintro e w' ⟨rfl, n, rfl⟩) | (go_at_call 3; refine (runs_any _).mono ?_; rintro e w' ⟨rfl, n, rfl⟩))
  go_ret
  exact ⟨rfl, _, rfl⟩

theorem signs_ZZ (a b S P F : Nat) (ha : a < 18446744073709551616) (hb : b < 18446744073709551616)
    (hS : bits .and .u64 (bits .xor .u64 (a : Int) (b : Int)) 9223372036854775808 = (S : Int))
    (ha : kindN a = 3) (hb : kindN b = 3)
    (hP : opN 3 a b = P) (hPn : ((P : Int) == 9221120237041090560) = false) (hPm : ((P : Int) != 9221120237041090560) = true) (hPs : bits .and .u64 (P : Int) 9223372036854775808 = (S : Int))
    (hQ : opN 4 a b = 9221120237041090560)
    (hZ : opN 2 a a = 0) (hF : bits .xor .u64 (a : Int) 9223372036854775808 = (F : Int)) (hFl : F < 18446744073709551616) (hY : opN 1 a F = 0) (w : World) :
    Calls Try.prog 4 #[.int .u64 (a : Int), .int .u64 (b : Int)] w fun e w' => e = .returned (.bool true) ∧ ∃ n, w.drewN n = w' := by
  go_enter Try.func4, Try.ntmps4
  go_wp2_with (first | (go_at_call 15; refine (kind_any _ (by assumption) _).mono ?_; rintro e w' ⟨rfl, rfl⟩) | (go_at_call 12; refine (op_any _ _ _ (by assumption) (by assumption) _).mono ?_; rintro e w' ⟨rfl, n, rfl⟩) | (go_at_call 3; refine (runs_any _).mono ?_; rintro e w' ⟨rfl, n, rfl⟩))
  go_ret
  exact ⟨rfl, _, rfl⟩

theorem signs_ZF (a b S P Q F : Nat) (ha : a < 18446744073709551616) (hb : b < 18446744073709551616)
    (hS : bits .and .u64 (bits .xor .u64 (a : Int) (b : Int)) 9223372036854775808 = (S : Int))
    (ha : kindN a = 3) (hb1 : (kindN b == 1) = false) (hb2 : (kindN b == 2) = false) (hb3 : (kindN b == 3) = false)
    (hP : opN 3 a b = P) (hPn : ((P : Int) == 9221120237041090560) = false) (hPm : ((P : Int) != 9221120237041090560) = true) (hPs : bits .and .u64 (P : Int) 9223372036854775808 = (S : Int))
    (hQ : opN 4 a b = Q) (hQn : ((Q : Int) == 9221120237041090560) = false) (hQm : ((Q : Int) != 9221120237041090560) = true) (hQs : bits .and .u64 (Q : Int) 9223372036854775808 = (S : Int))
    (hZ : opN 2 a a = 0) (hF : bits .xor .u64 (a : Int) 9223372036854775808 = (F : Int)) (hFl : F < 18446744073709551616) (hY : opN 1 a F = 0) (w : World) :
    Calls Try.prog 4 #[.int .u64 (a : Int), .int .u64 (b : Int)] w fun e w' => e = .returned (.bool true) ∧ ∃ n, w.drewN n = w' := by
  go_enter Try.func4, Try.ntmps4
  go_wp2_with (first | (go_at_call 15; refine (kind_any _ (by assumption) _).mono ?_; rintro e w' ⟨rfl, rfl⟩) | (go_at_call 12; refine (op_any _ _ _ (by assumption) (by assumption) _).mono ?_; rintro e w' ⟨rfl, n, rfl⟩) | (go_at_call 3; refine (runs_any _).mono ?_; rintro e w' ⟨rfl, n, rfl⟩))
  go_ret
  exact ⟨rfl, _, rfl⟩

theorem signs_FI (a b S P F : Nat) (ha : a < 18446744073709551616) (hb : b < 18446744073709551616)
    (hS : bits .and .u64 (bits .xor .u64 (a : Int) (b : Int)) 9223372036854775808 = (S : Int))
    (ha1 : (kindN a == 1) = false) (ha2 : (kindN a == 2) = false) (ha3 : (kindN a == 3) = false) (hb : kindN b = 2)
    (hP : opN 3 a b = P) (hPn : ((P : Int) == 9221120237041090560) = false) (hPm : ((P : Int) != 9221120237041090560) = true) (hPs : bits .and .u64 (P : Int) 9223372036854775808 = (S : Int))
    (hQ : opN 4 a b = S) (hSn : ((S : Int) == 9221120237041090560) = false) (hSm : ((S : Int) != 9221120237041090560) = true) (hSs : bits .and .u64 (S : Int) 9223372036854775808 = (S : Int))
    (hZ : opN 2 a a = 0) (hF : bits .xor .u64 (a : Int) 9223372036854775808 = (F : Int)) (hFl : F < 18446744073709551616) (hY : opN 1 a F = 0) (w : World) :
    Calls Try.prog 4 #[.int .u64 (a : Int), .int .u64 (b : Int)] w fun e w' => e = .returned (.bool true) ∧ ∃ n, w.drewN n = w' := by
  go_enter Try.func4, Try.ntmps4
  go_wp2_with (first | (go_at_call 15; refine (kind_any _ (by assumption) _).mono ?_; rintro e w' ⟨rfl, rfl⟩) | (go_at_call 12; refine (op_any _ _ _ (by assumption) (by assumption) _).mono ?_; rintro e w' ⟨rfl, n, rfl⟩) | (go_at_call 3; refine (runs_any _).mono ?_; rintro e w' ⟨rfl, n, rfl⟩))
  go_ret
  exact ⟨rfl, _, rfl⟩

theorem signs_FZ (a b S P Q F : Nat) (ha : a < 18446744073709551616) (hb : b < 18446744073709551616)
    (hS : bits .and .u64 (bits .xor .u64 (a : Int) (b : Int)) 9223372036854775808 = (S : Int))
    (ha1 : (kindN a == 1) = false) (ha2 : (kindN a == 2) = false) (ha3 : (kindN a == 3) = false) (hb : kindN b = 3)
    (hP : opN 3 a b = P) (hPn : ((P : Int) == 9221120237041090560) = false) (hPm : ((P : Int) != 9221120237041090560) = true) (hPs : bits .and .u64 (P : Int) 9223372036854775808 = (S : Int))
    (hQ : opN 4 a b = Q) (hQn : ((Q : Int) == 9221120237041090560) = false) (hQm : ((Q : Int) != 9221120237041090560) = true) (hQs : bits .and .u64 (Q : Int) 9223372036854775808 = (S : Int)) (hQi : bits .or .u64 (S : Int) 9218868437227405312 = (Q : Int))
    (hZ : opN 2 a a = 0) (hF : bits .xor .u64 (a : Int) 9223372036854775808 = (F : Int)) (hFl : F < 18446744073709551616) (hY : opN 1 a F = 0) (w : World) :
    Calls Try.prog 4 #[.int .u64 (a : Int), .int .u64 (b : Int)] w fun e w' => e = .returned (.bool true) ∧ ∃ n, w.drewN n = w' := by
  go_enter Try.func4, Try.ntmps4
  go_wp2_with (first | (go_at_call 15; refine (kind_any _ (by assumption) _).mono ?_; rintro e w' ⟨rfl, rfl⟩) | (go_at_call 12; refine (op_any _ _ _ (by assumption) (by assumption) _).mono ?_; rintro e w' ⟨rfl, n, rfl⟩) | (go_at_call 3; refine (runs_any _).mono ?_; rintro e w' ⟨rfl, n, rfl⟩))
  go_ret
  exact ⟨rfl, _, rfl⟩

theorem signs_FF (a b S P Q F : Nat) (ha : a < 18446744073709551616) (hb : b < 18446744073709551616)
    (hS : bits .and .u64 (bits .xor .u64 (a : Int) (b : Int)) 9223372036854775808 = (S : Int))
    (ha1 : (kindN a == 1) = false) (ha2 : (kindN a == 2) = false) (ha3 : (kindN a == 3) = false) (hb1 : (kindN b == 1) = false) (hb2 : (kindN b == 2) = false) (hb3 : (kindN b == 3) = false)
    (hP : opN 3 a b = P) (hPn : ((P : Int) == 9221120237041090560) = false) (hPm : ((P : Int) != 9221120237041090560) = true) (hPs : bits .and .u64 (P : Int) 9223372036854775808 = (S : Int))
    (hQ : opN 4 a b = Q) (hQn : ((Q : Int) == 9221120237041090560) = false) (hQm : ((Q : Int) != 9221120237041090560) = true) (hQs : bits .and .u64 (Q : Int) 9223372036854775808 = (S : Int))
    (hZ : opN 2 a a = 0) (hF : bits .xor .u64 (a : Int) 9223372036854775808 = (F : Int)) (hFl : F < 18446744073709551616) (hY : opN 1 a F = 0) (w : World) :
    Calls Try.prog 4 #[.int .u64 (a : Int), .int .u64 (b : Int)] w fun e w' => e = .returned (.bool true) ∧ ∃ n, w.drewN n = w' := by
  go_enter Try.func4, Try.ntmps4
  go_wp2_with (first | (go_at_call 15; refine (kind_any _ (by assumption) _).mono ?_; rintro e w' ⟨rfl, rfl⟩) | (go_at_call 12; refine (op_any _ _ _ (by assumption) (by assumption) _).mono ?_; rintro e w' ⟨rfl, n, rfl⟩) | (go_at_call 3; refine (runs_any _).mono ?_; rintro e w' ⟨rfl, n, rfl⟩))
  go_ret
  exact ⟨rfl, _, rfl⟩

theorem and_nat (a : Nat) (ha : a < 18446744073709551616) : bits .and .u64 (a : Int) 9223372036854775808 = ((a &&& 9223372036854775808 : Nat) : Int) := u64_and_nat a 9223372036854775808 ha (by decide)
theorem xor_lt {a b : Nat} (ha : a < 18446744073709551616) (hb : b < 18446744073709551616) : a ^^^ b < 18446744073709551616 := by
  have : a ^^^ b < 2 ^ 64 := Nat.xor_lt_two_pow (by omega) (by omega)
  omega
theorem s_of (a b : Nat) (ha : a < 18446744073709551616) (hb : b < 18446744073709551616) : bits .and .u64 (bits .xor .u64 (a : Int) (b : Int)) 9223372036854775808 = ((signW (negW a ^^ negW b) : Nat) : Int) := by
  rw [u64_xor_nat a b ha hb, and_nat _ (xor_lt ha hb), sign_of_xor]
theorem w_eq (s : Bool) {r : Nat} (h : r ≤ 9218868437227405312) : (((Ieee.double.word s r : Nat) : Int) == 9221120237041090560) = false ∧ (((Ieee.double.word s r : Nat) : Int) != 9221120237041090560) = true ∧ bits .and .u64 ((Ieee.double.word s r : Nat) : Int) 9223372036854775808 = ((signW s : Nat) : Int) := by
  have h1 := word_ne s h
  have h2 : ((Ieee.double.word s r : Nat) : Int) ≠ 9221120237041090560 := by omega
  refine ⟨beq_eq_false_iff_ne.2 h2, by rw [bne_iff_ne]; exact h2, ?_⟩
  rw [and_nat _ (word_lt s h), sign_of_word s h]
theorem or_inf (s : Bool) : bits .or .u64 ((signW s : Nat) : Int) 9218868437227405312 = ((Ieee.double.word s 9218868437227405312 : Nat) : Int) := by
  have h := u64_or_nat (signW s) 9218868437227405312 (by cases s <;> decide) (by decide)
  rw [sign_or_inf] at h; exact h
theorem xor_flip (a : Nat) (ha : a < 18446744073709551616) : bits .xor .u64 (a : Int) 9223372036854775808 = ((flipW a : Nat) : Int) := u64_xor_nat a 9223372036854775808 ha (by decide)

theorem signs_any (a b : Nat) (ha : a < 18446744073709551616) (hb : b < 18446744073709551616) (w : World) :
    Calls Try.prog 4 #[.int .u64 (a : Int), .int .u64 (b : Int)] w fun e w' => e = .returned (.bool true) ∧ ∃ n, w.drewN n = w' := by
  have hs := s_of a b ha hb
  have hw0 := w_eq (negW a ^^ negW b) (show (0 : Nat) ≤ 9218868437227405312 by omega)
  rw [word_zero] at hw0
  rcases classes a with ca | ca | ca | ca
  · exact signs_N a b _ ha hb hs (kind_of_nan ca) (arith_nan_left .mul (by simp) ca) (arith_nan_left .quo (by simp) ca) (arith_nan_left .sub (by simp) ca) w
  · rcases classes b with cb | cb | cb | cb
    · exact signs_IN a b _ ha hb hs (kind_of_inf ca) (kind_of_nan cb) (arith_nan_right .mul (by simp) cb) (arith_nan_right .quo (by simp) cb) (sub_inf_self ca) w
    · exact signs_II a b _ _ ha hb hs (kind_of_inf ca) (kind_of_inf cb) (mul_inf_left ca (nan_of_inf cb) (by omega)) (w_eq _ (Nat.le_refl _)).1 (w_eq _ (Nat.le_refl _)).2.1 (w_eq _ (Nat.le_refl _)).2.2 (div_inf_inf ca cb) (sub_inf_self ca) w
    · exact signs_IZ a b _ _ ha hb hs (kind_of_inf ca) (kind_of_zero cb) (mul_inf_zero ca cb) (div_inf_fin ca (by omega)) (w_eq _ (Nat.le_refl _)).1 (w_eq _ (Nat.le_refl _)).2.1 (w_eq _ (Nat.le_refl _)).2.2 (or_inf _) (sub_inf_self ca) w
    · exact signs_IF a b _ _ _ ha hb hs (kind_of_inf ca) (kne cb.1 cb.2).1 (kne cb.1 cb.2).2.1 (kne cb.1 cb.2).2.2 (mul_inf_left ca (nan_of_fin cb.2) (by omega)) (w_eq _ (Nat.le_refl _)).1 (w_eq _ (Nat.le_refl _)).2.1 (w_eq _ (Nat.le_refl _)).2.2 (div_inf_fin ca cb.2) (w_eq _ (Nat.le_refl _)).1 (w_eq _ (Nat.le_refl _)).2.1 (w_eq _ (Nat.le_refl _)).2.2 (sub_inf_self ca) w
  · rcases classes b with cb | cb | cb | cb
    · exact signs_ZN a b _ (flipW a) ha hb hs (kind_of_zero ca) (kind_of_nan cb) (arith_nan_right .mul (by simp) cb) (arith_nan_right .quo (by simp) cb) (sub_fin_self (by omega)) (xor_flip a ha) (flip_lt ha) (add_flip (by omega)) w
    · exact signs_ZI a b _ (flipW a) ha hb hs (kind_of_zero ca) (kind_of_inf cb) (mul_zero_inf ca cb) ((div_fin_inf (by omega) cb).trans (word_zero _)) hw0.1 hw0.2.1 hw0.2.2 (sub_fin_self (by omega)) (xor_flip a ha) (flip_lt ha) (add_flip (by omega)) w
    · obtain ⟨rm, hm1, hm2⟩ := mul_fin_word (x := a) (y := b) (by omega) (by omega)
      exact signs_ZZ a b _ _ (flipW a) ha hb hs (kind_of_zero ca) (kind_of_zero cb) hm2 (w_eq _ hm1).1 (w_eq _ hm1).2.1 (w_eq _ hm1).2.2 (div_zero_zero ca cb) (sub_fin_self (by omega)) (xor_flip a ha) (flip_lt ha) (add_flip (by omega)) w
    · obtain ⟨rm, hm1, hm2⟩ := mul_fin_word (x := a) (y := b) (by omega) (by omega)
      obtain ⟨rd, hd1, hd2⟩ := div_fin_word (x := a) (y := b) (by omega) cb.1 cb.2
      exact signs_ZF a b _ _ _ (flipW a) ha hb hs (kind_of_zero ca) (kne cb.1 cb.2).1 (kne cb.1 cb.2).2.1 (kne cb.1 cb.2).2.2 hm2 (w_eq _ hm1).1 (w_eq _ hm1).2.1 (w_eq _ hm1).2.2 hd2 (w_eq _ hd1).1 (w_eq _ hd1).2.1 (w_eq _ hd1).2.2 (sub_fin_self (by omega)) (xor_flip a ha) (flip_lt ha) (add_flip (by omega)) w
  · rcases classes b with cb | cb | cb | cb
    · exact signs_FN a b _ (flipW a) ha hb hs (kne ca.1 ca.2).1 (kne ca.1 ca.2).2.1 (kne ca.1 ca.2).2.2 (kind_of_nan cb) (arith_nan_right .mul (by simp) cb) (arith_nan_right .quo (by simp) cb) (sub_fin_self (by omega)) (xor_flip a ha) (flip_lt ha) (add_flip (by omega)) w
    · exact signs_FI a b _ _ (flipW a) ha hb hs (kne ca.1 ca.2).1 (kne ca.1 ca.2).2.1 (kne ca.1 ca.2).2.2 (kind_of_inf cb) (mul_inf_right cb (nan_of_fin ca.2) (by omega)) (w_eq _ (Nat.le_refl _)).1 (w_eq _ (Nat.le_refl _)).2.1 (w_eq _ (Nat.le_refl _)).2.2 ((div_fin_inf (by omega) cb).trans (word_zero _)) hw0.1 hw0.2.1 hw0.2.2 (sub_fin_self (by omega)) (xor_flip a ha) (flip_lt ha) (add_flip (by omega)) w
    · obtain ⟨rm, hm1, hm2⟩ := mul_fin_word (x := a) (y := b) (by omega) (by omega)
      exact signs_FZ a b _ _ _ (flipW a) ha hb hs (kne ca.1 ca.2).1 (kne ca.1 ca.2).2.1 (kne ca.1 ca.2).2.2 (kind_of_zero cb) hm2 (w_eq _ hm1).1 (w_eq _ hm1).2.1 (w_eq _ hm1).2.2 (div_by_zero ca.1 ca.2 cb) (w_eq _ (Nat.le_refl _)).1 (w_eq _ (Nat.le_refl _)).2.1 (w_eq _ (Nat.le_refl _)).2.2 (or_inf _) (sub_fin_self (by omega)) (xor_flip a ha) (flip_lt ha) (add_flip (by omega)) w
    · obtain ⟨rm, hm1, hm2⟩ := mul_fin_word (x := a) (y := b) (by omega) (by omega)
      obtain ⟨rd, hd1, hd2⟩ := div_fin_word (x := a) (y := b) (by omega) cb.1 cb.2
      exact signs_FF a b _ _ _ (flipW a) ha hb hs (kne ca.1 ca.2).1 (kne ca.1 ca.2).2.1 (kne ca.1 ca.2).2.2 (kne cb.1 cb.2).1 (kne cb.1 cb.2).2.1 (kne cb.1 cb.2).2.2 hm2 (w_eq _ hm1).1 (w_eq _ hm1).2.1 (w_eq _ hm1).2.2 hd2 (w_eq _ hd1).1 (w_eq _ hd1).2.1 (w_eq _ hd1).2.2 (sub_fin_self (by omega)) (xor_flip a ha) (flip_lt ha) (add_flip (by omega)) w
end Go.Proofs.Ytdkofonpkbjjmaa.Fp
