/- FpuNans returns true for any operation and any words below 2^64. No other condition. -/
import Derived.Test.YtdkofonpkbjjmaaFpRuns
import Derived.Test.YtdkofonpkbjjmaaFpOrd
import Derived.Test.YtdkofonpkbjjmaaWithin
namespace Go.Proofs.Ytdkofonpkbjjmaa.Fp
open Go.RowKit
set_option linter.unusedVariables false
attribute [local irreducible] Int.lt Int.le cleanN opN kindN orderN cmpN

theorem nans_5n (op M : Int) (a b p N : Nat) (ha : a < 18446744073709551616) (hb : b < 18446744073709551616) (hN : N < 18446744073709551616)
    (hn : bits .or .u64 (bits .or .u64 9221120237041090560 (bits .and .u64 (p : Int) 2251799813685247)) (bits .and .u64 (p : Int) 9223372036854775808) = (N : Int))
    (hk : withinI op 1 6 = 5) (hcn : cleanN N = 9221120237041090560) (hM : bits .or .i64 (bits .and .i64 op 7) 8 = M) (hMo : opN M a b = 9221120237041090560)
    (hx : opN 5 N b = cleanN b) (hy : opN 5 a N = cleanN a)
    (hz : opN 5 a b = 9221120237041090560) (hkz : kindN 9221120237041090560 = 1) (w : World) :
    Calls Try.prog 7 #[.int .i64 op, .int .u64 (a : Int), .int .u64 (b : Int), .int .u64 (p : Int)] w fun e w' => e = .returned (.bool true) ∧ ∃ n, w.drewN n = w' := by
  have hnl : (9221120237041090560 : Nat) < 18446744073709551616 := by decide
  go_enter Try.func7, Try.ntmps7
  go_wp2_with (first | (go_at_call 15; refine (kind_any _ (by assumption) _).mono ?_; rintro e w' ⟨rfl, rfl⟩) | (go_at_call 16; refine (clean_any _ (by assumption) _).mono ?_; rintro e w' ⟨rfl, rfl⟩) | (go_at_call 13; refine (cmp_any _ _ (by assumption) (by assumption) _).mono ?_; rintro e w' ⟨rfl, rfl⟩) | (go_at_call 12; refine (op_any _ _ _ (by assumption) (by assumption) _).mono ?_; rintro e w' ⟨rfl, n, rfl⟩) | (go_at_call 3; refine (runs_any _).mono ?_; rintro e w' ⟨rfl, n, rfl⟩) | (go_at_call 17; refine (within_any _ _ _ (by decide) (by decide) (by decide) _).mono ?_; rintro e w' ⟨rfl, rfl⟩))
  go_ret
  exact ⟨rfl, _, rfl⟩

theorem nans_5w (op M : Int) (a b p N Z : Nat) (ha : a < 18446744073709551616) (hb : b < 18446744073709551616) (hN : N < 18446744073709551616)
    (hn : bits .or .u64 (bits .or .u64 9221120237041090560 (bits .and .u64 (p : Int) 2251799813685247)) (bits .and .u64 (p : Int) 9223372036854775808) = (N : Int))
    (hk : withinI op 1 6 = 5) (hcn : cleanN N = 9221120237041090560) (hM : bits .or .i64 (bits .and .i64 op 7) 8 = M) (hMo : opN M a b = 9221120237041090560)
    (hx : opN 5 N b = cleanN b) (hy : opN 5 a N = cleanN a)
    (hz : opN 5 a b = Z) (hZ : Z < 18446744073709551616) (hkz : (kindN Z == 1) = false) (w : World) :
    Calls Try.prog 7 #[.int .i64 op, .int .u64 (a : Int), .int .u64 (b : Int), .int .u64 (p : Int)] w fun e w' => e = .returned (.bool true) ∧ ∃ n, w.drewN n = w' := by
  have hnl : (9221120237041090560 : Nat) < 18446744073709551616 := by decide
  go_enter Try.func7, Try.ntmps7
  go_wp2_with (first | (go_at_call 15; refine (kind_any _ (by assumption) _).mono ?_; rintro e w' ⟨rfl, rfl⟩) | (go_at_call 16; refine (clean_any _ (by assumption) _).mono ?_; rintro e w' ⟨rfl, rfl⟩) | (go_at_call 13; refine (cmp_any _ _ (by assumption) (by assumption) _).mono ?_; rintro e w' ⟨rfl, rfl⟩) | (go_at_call 12; refine (op_any _ _ _ (by assumption) (by assumption) _).mono ?_; rintro e w' ⟨rfl, n, rfl⟩) | (go_at_call 3; refine (runs_any _).mono ?_; rintro e w' ⟨rfl, n, rfl⟩) | (go_at_call 17; refine (within_any _ _ _ (by decide) (by decide) (by decide) _).mono ?_; rintro e w' ⟨rfl, rfl⟩))
  go_ret
  exact ⟨rfl, _, rfl⟩

theorem nans_6n (op M : Int) (a b p N : Nat) (ha : a < 18446744073709551616) (hb : b < 18446744073709551616) (hN : N < 18446744073709551616)
    (hn : bits .or .u64 (bits .or .u64 9221120237041090560 (bits .and .u64 (p : Int) 2251799813685247)) (bits .and .u64 (p : Int) 9223372036854775808) = (N : Int))
    (hk : withinI op 1 6 = 6) (hcn : cleanN N = 9221120237041090560) (hM : bits .or .i64 (bits .and .i64 op 7) 8 = M) (hMo : opN M a b = 9221120237041090560)
    (hx : opN 6 N b = cleanN b) (hy : opN 6 a N = cleanN a)
    (hz : opN 6 a b = 9221120237041090560) (hkz : kindN 9221120237041090560 = 1) (w : World) :
    Calls Try.prog 7 #[.int .i64 op, .int .u64 (a : Int), .int .u64 (b : Int), .int .u64 (p : Int)] w fun e w' => e = .returned (.bool true) ∧ ∃ n, w.drewN n = w' := by
  have hnl : (9221120237041090560 : Nat) < 18446744073709551616 := by decide
  go_enter Try.func7, Try.ntmps7
  go_wp2_with (first | (go_at_call 15; refine (kind_any _ (by assumption) _).mono ?_; rintro e w' ⟨rfl, rfl⟩) | (go_at_call 16; refine (clean_any _ (by assumption) _).mono ?_; rintro e w' ⟨rfl, rfl⟩) | (go_at_call 13; refine (cmp_any _ _ (by assumption) (by assumption) _).mono ?_; rintro e w' ⟨rfl, rfl⟩) | (go_at_call 12; refine (op_any _ _ _ (by assumption) (by assumption) _).mono ?_; rintro e w' ⟨rfl, n, rfl⟩) | (go_at_call 3; refine (runs_any _).mono ?_; rintro e w' ⟨rfl, n, rfl⟩) | (go_at_call 17; refine (within_any _ _ _ (by decide) (by decide) (by decide) _).mono ?_; rintro e w' ⟨rfl, rfl⟩))
  go_ret
  exact ⟨rfl, _, rfl⟩

theorem nans_6w (op M : Int) (a b p N Z : Nat) (ha : a < 18446744073709551616) (hb : b < 18446744073709551616) (hN : N < 18446744073709551616)
    (hn : bits .or .u64 (bits .or .u64 9221120237041090560 (bits .and .u64 (p : Int) 2251799813685247)) (bits .and .u64 (p : Int) 9223372036854775808) = (N : Int))
    (hk : withinI op 1 6 = 6) (hcn : cleanN N = 9221120237041090560) (hM : bits .or .i64 (bits .and .i64 op 7) 8 = M) (hMo : opN M a b = 9221120237041090560)
    (hx : opN 6 N b = cleanN b) (hy : opN 6 a N = cleanN a)
    (hz : opN 6 a b = Z) (hZ : Z < 18446744073709551616) (hkz : (kindN Z == 1) = false) (w : World) :
    Calls Try.prog 7 #[.int .i64 op, .int .u64 (a : Int), .int .u64 (b : Int), .int .u64 (p : Int)] w fun e w' => e = .returned (.bool true) ∧ ∃ n, w.drewN n = w' := by
  have hnl : (9221120237041090560 : Nat) < 18446744073709551616 := by decide
  go_enter Try.func7, Try.ntmps7
  go_wp2_with (first | (go_at_call 15; refine (kind_any _ (by assumption) _).mono ?_; rintro e w' ⟨rfl, rfl⟩) | (go_at_call 16; refine (clean_any _ (by assumption) _).mono ?_; rintro e w' ⟨rfl, rfl⟩) | (go_at_call 13; refine (cmp_any _ _ (by assumption) (by assumption) _).mono ?_; rintro e w' ⟨rfl, rfl⟩) | (go_at_call 12; refine (op_any _ _ _ (by assumption) (by assumption) _).mono ?_; rintro e w' ⟨rfl, n, rfl⟩) | (go_at_call 3; refine (runs_any _).mono ?_; rintro e w' ⟨rfl, n, rfl⟩) | (go_at_call 17; refine (within_any _ _ _ (by decide) (by decide) (by decide) _).mono ?_; rintro e w' ⟨rfl, rfl⟩))
  go_ret
  exact ⟨rfl, _, rfl⟩

theorem nans_Kn (op K M : Int) (a b p N : Nat) (ha : a < 18446744073709551616) (hb : b < 18446744073709551616) (hN : N < 18446744073709551616)
    (hn : bits .or .u64 (bits .or .u64 9221120237041090560 (bits .and .u64 (p : Int) 2251799813685247)) (bits .and .u64 (p : Int) 9223372036854775808) = (N : Int))
    (hk : withinI op 1 6 = K) (hcn : cleanN N = 9221120237041090560) (hM : bits .or .i64 (bits .and .i64 op 7) 8 = M) (hMo : opN M a b = 9221120237041090560)
    (hK5 : (K == 5) = false) (hK6 : (K == 6) = false) (hx : opN K N b = 9221120237041090560) (hy : opN K a N = 9221120237041090560)
    (hz : opN K a b = 9221120237041090560) (hkz : kindN 9221120237041090560 = 1) (w : World) :
    Calls Try.prog 7 #[.int .i64 op, .int .u64 (a : Int), .int .u64 (b : Int), .int .u64 (p : Int)] w fun e w' => e = .returned (.bool true) ∧ ∃ n, w.drewN n = w' := by
  have hnl : (9221120237041090560 : Nat) < 18446744073709551616 := by decide
  go_enter Try.func7, Try.ntmps7
  go_wp2_with (first | (go_at_call 15; refine (kind_any _ (by assumption) _).mono ?_; rintro e w' ⟨rfl, rfl⟩) | (go_at_call 16; refine (clean_any _ (by assumption) _).mono ?_; rintro e w' ⟨rfl, rfl⟩) | (go_at_call 13; refine (cmp_any _ _ (by assumption) (by assumption) _).mono ?_; rintro e w' ⟨rfl, rfl⟩) | (go_at_call 12; refine (op_any _ _ _ (by assumption) (by assumption) _).mono ?_; rintro e w' ⟨rfl, n, rfl⟩) | (go_at_call 3; refine (runs_any _).mono ?_; rintro e w' ⟨rfl, n, rfl⟩) | (go_at_call 17; refine (within_any _ _ _ (by decide) (by decide) (by decide) _).mono ?_; rintro e w' ⟨rfl, rfl⟩))
  go_ret
  exact ⟨rfl, _, rfl⟩

theorem nans_Kw (op K M : Int) (a b p N Z : Nat) (ha : a < 18446744073709551616) (hb : b < 18446744073709551616) (hN : N < 18446744073709551616)
    (hn : bits .or .u64 (bits .or .u64 9221120237041090560 (bits .and .u64 (p : Int) 2251799813685247)) (bits .and .u64 (p : Int) 9223372036854775808) = (N : Int))
    (hk : withinI op 1 6 = K) (hcn : cleanN N = 9221120237041090560) (hM : bits .or .i64 (bits .and .i64 op 7) 8 = M) (hMo : opN M a b = 9221120237041090560)
    (hK5 : (K == 5) = false) (hK6 : (K == 6) = false) (hx : opN K N b = 9221120237041090560) (hy : opN K a N = 9221120237041090560)
    (hz : opN K a b = Z) (hZ : Z < 18446744073709551616) (hkz : (kindN Z == 1) = false) (w : World) :
    Calls Try.prog 7 #[.int .i64 op, .int .u64 (a : Int), .int .u64 (b : Int), .int .u64 (p : Int)] w fun e w' => e = .returned (.bool true) ∧ ∃ n, w.drewN n = w' := by
  have hnl : (9221120237041090560 : Nat) < 18446744073709551616 := by decide
  go_enter Try.func7, Try.ntmps7
  go_wp2_with (first | (go_at_call 15; refine (kind_any _ (by assumption) _).mono ?_; rintro e w' ⟨rfl, rfl⟩) | (go_at_call 16; refine (clean_any _ (by assumption) _).mono ?_; rintro e w' ⟨rfl, rfl⟩) | (go_at_call 13; refine (cmp_any _ _ (by assumption) (by assumption) _).mono ?_; rintro e w' ⟨rfl, rfl⟩) | (go_at_call 12; refine (op_any _ _ _ (by assumption) (by assumption) _).mono ?_; rintro e w' ⟨rfl, n, rfl⟩) | (go_at_call 3; refine (runs_any _).mono ?_; rintro e w' ⟨rfl, n, rfl⟩) | (go_at_call 17; refine (within_any _ _ _ (by decide) (by decide) (by decide) _).mono ?_; rintro e w' ⟨rfl, rfl⟩))
  go_ret
  exact ⟨rfl, _, rfl⟩

end Go.Proofs.Ytdkofonpkbjjmaa.Fp
