/- The contracts of the document's own answer to chapter 1 (cloisterref1): Order, Cmp and Op: each computes the same plain functions as the program (text FpDefs), for every word below 2^64. -/
import Derived.Test.YtdpgpnjjonhdhaaRefB
namespace Go.Proofs.Ytdpgpnjjonhdhaa.Fp
open Go.RowKit
set_option linter.unusedVariables false

theorem place_any (x : Nat) (hx : x < 18446744073709551616) (w : World) :
    Calls Try.prog 52 #[.int .u64 (x : Int)] w fun e w' => e = .returned (.int .u64 (placeN x : Nat)) ∧ w = w' := by
  cases h : nanN x
  · cases hs : negW x
    · have hl := pos_lt hx hs
      exact place_pos_w x _ hx (kind_not_nan h) (by rw [neg_div x hx]; exact hs) (or_top x hl) (place_of_pos h hs) w
    · exact place_neg_w x _ hx (kind_not_nan h) (by rw [neg_div x hx]; exact hs) (not_bits x hx) (place_of_neg h hs) w
  · exact place_nan_w x hx (kind_of_nan h) (place_of_nan h) w

theorem rorder_any (a b : Nat) (ha : a < 18446744073709551616) (hb : b < 18446744073709551616) (w : World) :
    Calls Try.prog 44 #[.int .u64 (a : Int), .int .u64 (b : Int)] w fun e w' => e = .returned (.int .i64 (orderN a b)) ∧ w = w' := by
  rw [← place_cmp ha hb]
  exact rorder_w a b _ _ (place_any a ha) (place_any b hb) w

theorem rcmp_any (a b : Nat) (ha : a < 18446744073709551616) (hb : b < 18446744073709551616) (w : World) :
    Calls Try.prog 43 #[.int .u64 (a : Int), .int .u64 (b : Int)] w fun e w' => e = .returned (.int .i64 (cmpN a b)) ∧ w = w' := by
  cases na : nanN a
  · cases nb : nanN b
    · by_cases hz : a % 9223372036854775808 = 0 ∧ b % 9223372036854775808 = 0
      · exact rcmp_zeros a b ha hb (kind_of_zero hz.1) (kind_of_zero hz.2) (cmp_zeros hz.1 hz.2) w
      · refine rcmp_else a b _ ha hb (kind_not_nan na) (kind_not_nan nb) ?_ (rorder_any a b ha hb) (cmp_ref ha hb na nb hz) w
        by_cases za : a % 9223372036854775808 = 0
        · exact Or.inr ⟨kind_of_zero za, kind_not_zero (fun q => hz ⟨za, q⟩)⟩
        · exact Or.inl (kind_not_zero za)
    · exact rcmp_nan_b a b ha hb (kind_not_nan na) (kind_of_nan nb) (cmp_nan_right nb) w
  · exact rcmp_nan_a a b ha hb (kind_of_nan na) (cmp_nan_left na) w

attribute [local irreducible] Int.lt Int.le kindN cleanN placeN nanN orderN cmpN opN

theorem rop_arith (op : Int) (q : BinOp) (hq : q = .add ∧ op = 1 ∨ q = .sub ∧ op = 2 ∨ q = .mul ∧ op = 3 ∨ q = .quo ∧ op = 4) (a b : Nat) (w : World) :
    Calls Try.prog 41 #[.int .i64 op, .int .u64 (a : Int), .int .u64 (b : Int)] w fun e w' => e = .returned (.int .u64 (arithN q a b : Nat)) ∧ ∃ n, w.drewN n = w' := by
  have h := arith_any q (by rcases hq with ⟨rfl, _⟩ | ⟨rfl, _⟩ | ⟨rfl, _⟩ | ⟨rfl, _⟩ <;> simp) a b w
  have hf := frombits_call
  have hb := bits_call
  rcases h with ⟨r, hr, hc, hrun⟩ | ⟨r, hr, hc, hrun⟩
  all_goals
    rw [← hc]
    clear hc
    rcases hq with ⟨rfl, rfl⟩ | ⟨rfl, rfl⟩ | ⟨rfl, rfl⟩ | ⟨rfl, rfl⟩
  all_goals
    go_enter Try.func41, Try.ntmps41
    go_wp2_with fail
    refine (rclean_all r hr _).mono ?_; rintro e w' ⟨rfl, rfl⟩
    go_wp2_with fail
    go_ret
    first | exact ⟨rfl, 0, rfl⟩ | exact ⟨rfl, 1, rfl⟩

theorem rop_min (a b M : Nat) (ha : a < 18446744073709551616) (hb : b < 18446744073709551616) (hM : (decide (orderN a b ≤ 0) = true ∧ cleanN a = M) ∨ (decide (orderN a b ≤ 0) = false ∧ cleanN b = M)) (w : World) :
    Calls Try.prog 41 #[.int .i64 5, .int .u64 (a : Int), .int .u64 (b : Int)] w fun e w' => e = .returned (.int .u64 (M : Int)) ∧ ∃ n, w.drewN n = w' := by
  have hf := frombits_call
  rcases hM with ⟨h1, h2⟩ | ⟨h1, h2⟩
  all_goals
    go_enter Try.func41, Try.ntmps41
    go_wp2_with (first | (go_at_call 44; refine (rorder_any _ _ ha hb _).mono ?_; rintro e w' ⟨rfl, rfl⟩) | (go_at_call 50; refine (rclean_all _ (by assumption) _).mono ?_; rintro e w' ⟨rfl, rfl⟩))
    go_ret
    exact ⟨rfl, 0, rfl⟩

theorem rop_max_a (a b M : Nat) (ha : a < 18446744073709551616) (hb : b < 18446744073709551616) (h1 : kindN a = 1) (h2 : cleanN b = M) (w : World) :
    Calls Try.prog 41 #[.int .i64 6, .int .u64 (a : Int), .int .u64 (b : Int)] w fun e w' => e = .returned (.int .u64 (M : Int)) ∧ ∃ n, w.drewN n = w' := by
  have hf := frombits_call
  go_enter Try.func41, Try.ntmps41
  go_wp2_with (first | (go_at_call 51; refine (rkind_any _ (by assumption) _).mono ?_; rintro e w' ⟨rfl, rfl⟩) | (go_at_call 50; refine (rclean_all _ (by assumption) _).mono ?_; rintro e w' ⟨rfl, rfl⟩))
  go_ret
  exact ⟨rfl, 0, rfl⟩

theorem rop_max_b (a b : Nat) (ha : a < 18446744073709551616) (hb : b < 18446744073709551616) (h1 : (kindN a == 1) = false) (h2 : kindN b = 1 ∨ (kindN b == 1) = false ∧ decide (0 ≤ orderN a b) = true) (w : World) :
    Calls Try.prog 41 #[.int .i64 6, .int .u64 (a : Int), .int .u64 (b : Int)] w fun e w' => e = .returned (.int .u64 (a : Int)) ∧ ∃ n, w.drewN n = w' := by
  have hf := frombits_call
  rcases h2 with h2 | ⟨h2, h3⟩
  all_goals
    go_enter Try.func41, Try.ntmps41
    go_wp2_with (first | (go_at_call 44; refine (rorder_any _ _ ha hb _).mono ?_; rintro e w' ⟨rfl, rfl⟩) | (go_at_call 51; refine (rkind_any _ (by assumption) _).mono ?_; rintro e w' ⟨rfl, rfl⟩))
    go_ret
    exact ⟨rfl, 0, rfl⟩

theorem rop_max_c (a b : Nat) (ha : a < 18446744073709551616) (hb : b < 18446744073709551616) (h1 : (kindN a == 1) = false) (h2 : (kindN b == 1) = false) (h3 : decide (0 ≤ orderN a b) = false) (w : World) :
    Calls Try.prog 41 #[.int .i64 6, .int .u64 (a : Int), .int .u64 (b : Int)] w fun e w' => e = .returned (.int .u64 (b : Int)) ∧ ∃ n, w.drewN n = w' := by
  have hf := frombits_call
  go_enter Try.func41, Try.ntmps41
  go_wp2_with (first | (go_at_call 44; refine (rorder_any _ _ ha hb _).mono ?_; rintro e w' ⟨rfl, rfl⟩) | (go_at_call 51; refine (rkind_any _ (by assumption) _).mono ?_; rintro e w' ⟨rfl, rfl⟩))
  go_ret
  exact ⟨rfl, 0, rfl⟩

theorem rop_none (op : Int) (h : op < 1 ∨ 6 < op) (a b : Nat) (w : World) :
    Calls Try.prog 41 #[.int .i64 op, .int .u64 (a : Int), .int .u64 (b : Int)] w fun e w' => e = .returned (.int .u64 9221120237041090560) ∧ ∃ n, w.drewN n = w' := by
  have hf := frombits_call
  have h1 : (op == 1) = false := beq_eq_false_iff_ne.2 (by omega)
  have h2 : (op == 2) = false := beq_eq_false_iff_ne.2 (by omega)
  have h3 : (op == 3) = false := beq_eq_false_iff_ne.2 (by omega)
  have h4 : (op == 4) = false := beq_eq_false_iff_ne.2 (by omega)
  have h5 : (op == 5) = false := beq_eq_false_iff_ne.2 (by omega)
  have h6 : (op == 6) = false := beq_eq_false_iff_ne.2 (by omega)
  clear h
  go_enter Try.func41, Try.ntmps41
  go_wp2_with fail
  go_ret
  exact ⟨rfl, 0, rfl⟩

end Go.Proofs.Ytdpgpnjjonhdhaa.Fp
