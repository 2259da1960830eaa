/- FpuOrder: the walks, one for each case of the order and of the classes. The conditions of each stand in its statement. -/
import Derived.Test.YtdkofonpkbjjmaaFpRuns
import Derived.Test.YtdkofonpkbjjmaaFpClass
namespace Go.Proofs.Ytdkofonpkbjjmaa.Fp
open Go.RowKit
set_option linter.unusedVariables false
attribute [local irreducible] Int.lt Int.le cleanN opN kindN orderN cmpN

set_option maxRecDepth 100000 in
theorem ord_ele_NN (a b c : Nat) (Y Z : Int) (ha : a < 18446744073709551616) (hb : b < 18446744073709551616) (hc : c < 18446744073709551616)
    (haa : orderN a a = 0) (hbc : orderN b c = Y) (hac : orderN a c = Z) (hY : decide (Y ≤ 0) = true) (hZ : decide (0 < Z) = false) 
    (hab : orderN a b = 0) (hba : orderN b a = 0) (ka : kindN a = 1) (ca : cleanN a = 9221120237041090560) (cb : cleanN b = 9221120237041090560) (hcmp : cmpN a b = 2) (m1 : opN 5 a b = 9221120237041090560) (m2 : opN 6 a b = 9221120237041090560) (m3 : opN 5 b a = 9221120237041090560) (m4 : opN 6 b a = 9221120237041090560) (w : World) :
    Calls Try.prog 5 #[.int .u64 (a : Int), .int .u64 (b : Int), .int .u64 (c : Int)] w fun e w' => e = .returned (.bool true) ∧ ∃ n, w.drewN n = w' := by
  go_enter Try.func5, Try.ntmps5
  go_wp2_with (first | (go_at_call 15; refine (kind_any _ (by assumption) _).mono ?_; rintro e w' ⟨rfl, rfl⟩) | (go_at_call 14; refine (order_any _ _ (by assumption) (by assumption) _).mono ?_; rintro e w' ⟨rfl, rfl⟩) | (go_at_call 16; refine (clean_any _ (by assumption) _).mono ?_; rintro e w' ⟨rfl, rfl⟩) | (go_at_call 13; refine (cmp_any _ _ (by assumption) (by assumption) _).mono ?_; rintro e w' ⟨rfl, rfl⟩) | (go_at_call 12; refine (op_any _ _ _ (by assumption) (by assumption) _).mono ?_; rintro e w' ⟨rfl, n, rfl⟩) | (go_at_call 3; refine (runs_any _).mono ?_; rintro e w' ⟨rfl, n, rfl⟩))
  go_ret
  exact ⟨rfl, _, rfl⟩

set_option maxRecDepth 100000 in
theorem ord_ele_ZZ (a c : Nat) (Y Z : Int) (ha : a < 18446744073709551616) (hc : c < 18446744073709551616)
    (haa : orderN a a = 0) (hbc : orderN a c = Y) (hY : decide (Y ≤ 0) = true) (hZ : decide (0 < Y) = false)
    (ka : kindN a = 3) (ca : cleanN a = a) (hcmp : cmpN a a = 0) (m1 : opN 5 a a = a) (m2 : opN 6 a a = a) (w : World) :
    Calls Try.prog 5 #[.int .u64 (a : Int), .int .u64 (a : Int), .int .u64 (c : Int)] w fun e w' => e = .returned (.bool true) ∧ ∃ n, w.drewN n = w' := by
  go_enter Try.func5, Try.ntmps5
  go_wp2_with (first | (go_at_call 15; refine (kind_any _ (by assumption) _).mono ?_; rintro e w' ⟨rfl, rfl⟩) | (go_at_call 14; refine (order_any _ _ (by assumption) (by assumption) _).mono ?_; rintro e w' ⟨rfl, rfl⟩) | (go_at_call 16; refine (clean_any _ (by assumption) _).mono ?_; rintro e w' ⟨rfl, rfl⟩) | (go_at_call 13; refine (cmp_any _ _ (by assumption) (by assumption) _).mono ?_; rintro e w' ⟨rfl, rfl⟩) | (go_at_call 12; refine (op_any _ _ _ (by assumption) (by assumption) _).mono ?_; rintro e w' ⟨rfl, n, rfl⟩) | (go_at_call 3; refine (runs_any _).mono ?_; rintro e w' ⟨rfl, n, rfl⟩))
  go_ret
  exact ⟨rfl, _, rfl⟩

set_option maxRecDepth 100000 in
theorem ord_ele_OO (a c : Nat) (Y Z : Int) (ha : a < 18446744073709551616) (hc : c < 18446744073709551616)
    (haa : orderN a a = 0) (hbc : orderN a c = Y) (hY : decide (Y ≤ 0) = true) (hZ : decide (0 < Y) = false)
    (ka1 : (kindN a == 1) = false) (ka3 : (kindN a == 3) = false) (ca : cleanN a = a) (hcmp : cmpN a a = 0) (m1 : opN 5 a a = a) (m2 : opN 6 a a = a) (w : World) :
    Calls Try.prog 5 #[.int .u64 (a : Int), .int .u64 (a : Int), .int .u64 (c : Int)] w fun e w' => e = .returned (.bool true) ∧ ∃ n, w.drewN n = w' := by
  go_enter Try.func5, Try.ntmps5
  go_wp2_with (first | (go_at_call 15; refine (kind_any _ (by assumption) _).mono ?_; rintro e w' ⟨rfl, rfl⟩) | (go_at_call 14; refine (order_any _ _ (by assumption) (by assumption) _).mono ?_; rintro e w' ⟨rfl, rfl⟩) | (go_at_call 16; refine (clean_any _ (by assumption) _).mono ?_; rintro e w' ⟨rfl, rfl⟩) | (go_at_call 13; refine (cmp_any _ _ (by assumption) (by assumption) _).mono ?_; rintro e w' ⟨rfl, rfl⟩) | (go_at_call 12; refine (op_any _ _ _ (by assumption) (by assumption) _).mono ?_; rintro e w' ⟨rfl, n, rfl⟩) | (go_at_call 3; refine (runs_any _).mono ?_; rintro e w' ⟨rfl, n, rfl⟩))
  go_ret
  exact ⟨rfl, _, rfl⟩

set_option maxRecDepth 100000 in
theorem ord_egt_NN (a b c : Nat) (Y Z : Int) (ha : a < 18446744073709551616) (hb : b < 18446744073709551616) (hc : c < 18446744073709551616)
    (haa : orderN a a = 0) (hbc : orderN b c = Y) (hac : orderN a c = Z) (hY : decide (Y ≤ 0) = false) 
    (hab : orderN a b = 0) (hba : orderN b a = 0) (ka : kindN a = 1) (ca : cleanN a = 9221120237041090560) (cb : cleanN b = 9221120237041090560) (hcmp : cmpN a b = 2) (m1 : opN 5 a b = 9221120237041090560) (m2 : opN 6 a b = 9221120237041090560) (m3 : opN 5 b a = 9221120237041090560) (m4 : opN 6 b a = 9221120237041090560) (w : World) :
    Calls Try.prog 5 #[.int .u64 (a : Int), .int .u64 (b : Int), .int .u64 (c : Int)] w fun e w' => e = .returned (.bool true) ∧ ∃ n, w.drewN n = w' := by
  go_enter Try.func5, Try.ntmps5
  go_wp2_with (first | (go_at_call 15; refine (kind_any _ (by assumption) _).mono ?_; rintro e w' ⟨rfl, rfl⟩) | (go_at_call 14; refine (order_any _ _ (by assumption) (by assumption) _).mono ?_; rintro e w' ⟨rfl, rfl⟩) | (go_at_call 16; refine (clean_any _ (by assumption) _).mono ?_; rintro e w' ⟨rfl, rfl⟩) | (go_at_call 13; refine (cmp_any _ _ (by assumption) (by assumption) _).mono ?_; rintro e w' ⟨rfl, rfl⟩) | (go_at_call 12; refine (op_any _ _ _ (by assumption) (by assumption) _).mono ?_; rintro e w' ⟨rfl, n, rfl⟩) | (go_at_call 3; refine (runs_any _).mono ?_; rintro e w' ⟨rfl, n, rfl⟩))
  go_ret
  exact ⟨rfl, _, rfl⟩

set_option maxRecDepth 100000 in
theorem ord_egt_ZZ (a c : Nat) (Y Z : Int) (ha : a < 18446744073709551616) (hc : c < 18446744073709551616)
    (haa : orderN a a = 0) (hbc : orderN a c = Y) (hY : decide (Y ≤ 0) = false)
    (ka : kindN a = 3) (ca : cleanN a = a) (hcmp : cmpN a a = 0) (m1 : opN 5 a a = a) (m2 : opN 6 a a = a) (w : World) :
    Calls Try.prog 5 #[.int .u64 (a : Int), .int .u64 (a : Int), .int .u64 (c : Int)] w fun e w' => e = .returned (.bool true) ∧ ∃ n, w.drewN n = w' := by
  go_enter Try.func5, Try.ntmps5
  go_wp2_with (first | (go_at_call 15; refine (kind_any _ (by assumption) _).mono ?_; rintro e w' ⟨rfl, rfl⟩) | (go_at_call 14; refine (order_any _ _ (by assumption) (by assumption) _).mono ?_; rintro e w' ⟨rfl, rfl⟩) | (go_at_call 16; refine (clean_any _ (by assumption) _).mono ?_; rintro e w' ⟨rfl, rfl⟩) | (go_at_call 13; refine (cmp_any _ _ (by assumption) (by assumption) _).mono ?_; rintro e w' ⟨rfl, rfl⟩) | (go_at_call 12; refine (op_any _ _ _ (by assumption) (by assumption) _).mono ?_; rintro e w' ⟨rfl, n, rfl⟩) | (go_at_call 3; refine (runs_any _).mono ?_; rintro e w' ⟨rfl, n, rfl⟩))
  go_ret
  exact ⟨rfl, _, rfl⟩

set_option maxRecDepth 100000 in
theorem ord_egt_OO (a c : Nat) (Y Z : Int) (ha : a < 18446744073709551616) (hc : c < 18446744073709551616)
    (haa : orderN a a = 0) (hbc : orderN a c = Y) (hY : decide (Y ≤ 0) = false)
    (ka1 : (kindN a == 1) = false) (ka3 : (kindN a == 3) = false) (ca : cleanN a = a) (hcmp : cmpN a a = 0) (m1 : opN 5 a a = a) (m2 : opN 6 a a = a) (w : World) :
    Calls Try.prog 5 #[.int .u64 (a : Int), .int .u64 (a : Int), .int .u64 (c : Int)] w fun e w' => e = .returned (.bool true) ∧ ∃ n, w.drewN n = w' := by
  go_enter Try.func5, Try.ntmps5
  go_wp2_with (first | (go_at_call 15; refine (kind_any _ (by assumption) _).mono ?_; rintro e w' ⟨rfl, rfl⟩) | (go_at_call 14; refine (order_any _ _ (by assumption) (by assumption) _).mono ?_; rintro e w' ⟨rfl, rfl⟩) | (go_at_call 16; refine (clean_any _ (by assumption) _).mono ?_; rintro e w' ⟨rfl, rfl⟩) | (go_at_call 13; refine (cmp_any _ _ (by assumption) (by assumption) _).mono ?_; rintro e w' ⟨rfl, rfl⟩) | (go_at_call 12; refine (op_any _ _ _ (by assumption) (by assumption) _).mono ?_; rintro e w' ⟨rfl, n, rfl⟩) | (go_at_call 3; refine (runs_any _).mono ?_; rintro e w' ⟨rfl, n, rfl⟩))
  go_ret
  exact ⟨rfl, _, rfl⟩

set_option maxRecDepth 100000 in
theorem ord_p_No (a b c : Nat) (Y Z : Int) (ha : a < 18446744073709551616) (hb : b < 18446744073709551616) (hc : c < 18446744073709551616)
    (haa : orderN a a = 0) (hbc : orderN b c = Y) (hac : orderN a c = Z) 
    (hab : orderN a b = 1) (hba : orderN b a = -1) (ka : kindN a = 1) (ca : cleanN a = 9221120237041090560) (cb : cleanN b = b) (hne : ((9221120237041090560 : Int) == (b : Int)) = false) (hcmp : cmpN a b = 2) (m1 : opN 5 a b = b) (m2 : opN 6 a b = b) (m3 : opN 5 b a = b) (m4 : opN 6 b a = b) (w : World) :
    Calls Try.prog 5 #[.int .u64 (a : Int), .int .u64 (b : Int), .int .u64 (c : Int)] w fun e w' => e = .returned (.bool true) ∧ ∃ n, w.drewN n = w' := by
  go_enter Try.func5, Try.ntmps5
  go_wp2_with (first | (go_at_call 15; refine (kind_any _ (by assumption) _).mono ?_; rintro e w' ⟨rfl, rfl⟩) | (go_at_call 14; refine (order_any _ _ (by assumption) (by assumption) _).mono ?_; rintro e w' ⟨rfl, rfl⟩) | (go_at_call 16; refine (clean_any _ (by assumption) _).mono ?_; rintro e w' ⟨rfl, rfl⟩) | (go_at_call 13; refine (cmp_any _ _ (by assumption) (by assumption) _).mono ?_; rintro e w' ⟨rfl, rfl⟩) | (go_at_call 12; refine (op_any _ _ _ (by assumption) (by assumption) _).mono ?_; rintro e w' ⟨rfl, n, rfl⟩) | (go_at_call 3; refine (runs_any _).mono ?_; rintro e w' ⟨rfl, n, rfl⟩))
  go_ret
  exact ⟨rfl, _, rfl⟩

set_option maxRecDepth 100000 in
theorem ord_p_ZZ (a b c : Nat) (Y Z : Int) (ha : a < 18446744073709551616) (hb : b < 18446744073709551616) (hc : c < 18446744073709551616)
    (haa : orderN a a = 0) (hbc : orderN b c = Y) (hac : orderN a c = Z) 
    (hab : orderN a b = 1) (hba : orderN b a = -1) (ka : kindN a = 3) (kb : kindN b = 3) (ca : cleanN a = a) (cb : cleanN b = b) (hne : ((a : Int) == (b : Int)) = false) (hne2 : ((b : Int) == (a : Int)) = false) (hcmp : cmpN a b = 0) (m1 : opN 5 a b = b) (m2 : opN 6 a b = a) (w : World) :
    Calls Try.prog 5 #[.int .u64 (a : Int), .int .u64 (b : Int), .int .u64 (c : Int)] w fun e w' => e = .returned (.bool true) ∧ ∃ n, w.drewN n = w' := by
  go_enter Try.func5, Try.ntmps5
  go_wp2_with (first | (go_at_call 15; refine (kind_any _ (by assumption) _).mono ?_; rintro e w' ⟨rfl, rfl⟩) | (go_at_call 14; refine (order_any _ _ (by assumption) (by assumption) _).mono ?_; rintro e w' ⟨rfl, rfl⟩) | (go_at_call 16; refine (clean_any _ (by assumption) _).mono ?_; rintro e w' ⟨rfl, rfl⟩) | (go_at_call 13; refine (cmp_any _ _ (by assumption) (by assumption) _).mono ?_; rintro e w' ⟨rfl, rfl⟩) | (go_at_call 12; refine (op_any _ _ _ (by assumption) (by assumption) _).mono ?_; rintro e w' ⟨rfl, n, rfl⟩) | (go_at_call 3; refine (runs_any _).mono ?_; rintro e w' ⟨rfl, n, rfl⟩))
  go_ret
  exact ⟨rfl, _, rfl⟩

set_option maxRecDepth 100000 in
theorem ord_p_Zn (a b c : Nat) (Y Z : Int) (ha : a < 18446744073709551616) (hb : b < 18446744073709551616) (hc : c < 18446744073709551616)
    (haa : orderN a a = 0) (hbc : orderN b c = Y) (hac : orderN a c = Z) 
    (hab : orderN a b = 1) (hba : orderN b a = -1) (ka : kindN a = 3) (kb1 : (kindN b == 1) = false) (kb3 : (kindN b == 3) = false) (ca : cleanN a = a) (cb : cleanN b = b) (hne : ((a : Int) == (b : Int)) = false) (hne2 : ((b : Int) == (a : Int)) = false) (hcmp : cmpN a b = 1) (m1 : opN 5 a b = b) (m2 : opN 6 a b = a) (w : World) :
    Calls Try.prog 5 #[.int .u64 (a : Int), .int .u64 (b : Int), .int .u64 (c : Int)] w fun e w' => e = .returned (.bool true) ∧ ∃ n, w.drewN n = w' := by
  go_enter Try.func5, Try.ntmps5
  go_wp2_with (first | (go_at_call 15; refine (kind_any _ (by assumption) _).mono ?_; rintro e w' ⟨rfl, rfl⟩) | (go_at_call 14; refine (order_any _ _ (by assumption) (by assumption) _).mono ?_; rintro e w' ⟨rfl, rfl⟩) | (go_at_call 16; refine (clean_any _ (by assumption) _).mono ?_; rintro e w' ⟨rfl, rfl⟩) | (go_at_call 13; refine (cmp_any _ _ (by assumption) (by assumption) _).mono ?_; rintro e w' ⟨rfl, rfl⟩) | (go_at_call 12; refine (op_any _ _ _ (by assumption) (by assumption) _).mono ?_; rintro e w' ⟨rfl, n, rfl⟩) | (go_at_call 3; refine (runs_any _).mono ?_; rintro e w' ⟨rfl, n, rfl⟩))
  go_ret
  exact ⟨rfl, _, rfl⟩

set_option maxRecDepth 100000 in
theorem ord_p_n (a b c : Nat) (Y Z : Int) (ha : a < 18446744073709551616) (hb : b < 18446744073709551616) (hc : c < 18446744073709551616)
    (haa : orderN a a = 0) (hbc : orderN b c = Y) (hac : orderN a c = Z) 
    (hab : orderN a b = 1) (hba : orderN b a = -1) (ka1 : (kindN a == 1) = false) (ka3 : (kindN a == 3) = false) (kb1 : (kindN b == 1) = false) (ca : cleanN a = a) (cb : cleanN b = b) (hne : ((a : Int) == (b : Int)) = false) (hne2 : ((b : Int) == (a : Int)) = false) (hcmp : cmpN a b = 1) (m1 : opN 5 a b = b) (m2 : opN 6 a b = a) (w : World) :
    Calls Try.prog 5 #[.int .u64 (a : Int), .int .u64 (b : Int), .int .u64 (c : Int)] w fun e w' => e = .returned (.bool true) ∧ ∃ n, w.drewN n = w' := by
  go_enter Try.func5, Try.ntmps5
  go_wp2_with (first | (go_at_call 15; refine (kind_any _ (by assumption) _).mono ?_; rintro e w' ⟨rfl, rfl⟩) | (go_at_call 14; refine (order_any _ _ (by assumption) (by assumption) _).mono ?_; rintro e w' ⟨rfl, rfl⟩) | (go_at_call 16; refine (clean_any _ (by assumption) _).mono ?_; rintro e w' ⟨rfl, rfl⟩) | (go_at_call 13; refine (cmp_any _ _ (by assumption) (by assumption) _).mono ?_; rintro e w' ⟨rfl, rfl⟩) | (go_at_call 12; refine (op_any _ _ _ (by assumption) (by assumption) _).mono ?_; rintro e w' ⟨rfl, n, rfl⟩) | (go_at_call 3; refine (runs_any _).mono ?_; rintro e w' ⟨rfl, n, rfl⟩))
  go_ret
  exact ⟨rfl, _, rfl⟩

end Go.Proofs.Ytdkofonpkbjjmaa.Fp
