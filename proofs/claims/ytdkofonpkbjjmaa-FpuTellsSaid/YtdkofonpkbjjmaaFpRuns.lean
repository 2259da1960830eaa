/- The contracts of fpu.Cmp and fpu.Int at every word, of cloisterbook.Within, and of FpuRuns: chapter 1's runs are as they must be. -/
import Derived.Test.YtdkofonpkbjjmaaFpOp
import Derived.Test.YtdkofonpkbjjmaaIeeeC
namespace Go.Proofs.Ytdkofonpkbjjmaa.Fp
open Go.RowKit
attribute [local irreducible] Int.lt Int.le

theorem cmp_any (a b : Nat) (ha : a < 18446744073709551616) (hb : b < 18446744073709551616) (w : World) :
    Calls Try.prog 13 #[.int .u64 (a : Int), .int .u64 (b : Int)] w fun e w' => e = .returned (.int .i64 (cmpN a b)) ∧ w = w' := by
  unfold cmpN
  cases h1 : nanN a
  · cases h2 : nanN b
    · exact cmp_yes a b ha hb h1 h2 (order_self h1) (order_self h2) w
    · exact cmp_no a b ha hb (Or.inr h2) w
  · exact cmp_no a b ha hb (Or.inl h1) w

theorem int_all (x : Nat) (hx : x < 18446744073709551616) (w : World) :
    Calls Try.prog 11 #[.int .u64 (x : Int)] w fun e w' => e = .returned (.tuple #[.int .i64 (intN x).1, .bool (intN x).2]) ∧ w = w' :=
  int_any x hx (fun hn ho hl => int_within hn ho hl) (fun hn => by
    have : FloatKind.f64.format.order x 4890909195324358656 = some (compare (valueW x) (valueW 4890909195324358656)) := order_val hn nan_edge
    rw [this]; simp) w

theorem run1 (w : World) : Calls Try.prog 11 #[.int .u64 13836183955189006336] w fun e w' => e = .returned (.tuple #[.int .i64 (-2), .bool true]) ∧ w = w' := by
  have h := int_all 13836183955189006336 (by decide) w
  rw [show intN 13836183955189006336 = (-2, true) from by decide +kernel] at h
  exact h

theorem run2 (w : World) : Calls Try.prog 12 #[.int .i64 1, .int .u64 9223372036854775808, .int .u64 9223372036854775808] w fun e w' => e = .returned (.int .u64 9223372036854775808) ∧ ∃ n, w.drewN n = w' := by
  have h := op_any 1 9223372036854775808 9223372036854775808 (by decide) (by decide) w
  rw [show opN 1 9223372036854775808 9223372036854775808 = 9223372036854775808 from by decide +kernel] at h
  exact h

theorem run3 (w : World) : Calls Try.prog 12 #[.int .i64 5, .int .u64 0, .int .u64 9223372036854775808] w fun e w' => e = .returned (.int .u64 9223372036854775808) ∧ ∃ n, w.drewN n = w' := by
  have h := op_any 5 0 9223372036854775808 (by decide) (by decide) w
  rw [show opN 5 0 9223372036854775808 = 9223372036854775808 from by decide +kernel] at h
  exact h

theorem run4 (w : World) : Calls Try.prog 12 #[.int .i64 4, .int .u64 4607182418800017408, .int .u64 9223372036854775808] w fun e w' => e = .returned (.int .u64 18442240474082181120) ∧ ∃ n, w.drewN n = w' := by
  have h := op_any 4 4607182418800017408 9223372036854775808 (by decide) (by decide) w
  rw [show opN 4 4607182418800017408 9223372036854775808 = 18442240474082181120 from by decide +kernel] at h
  exact h

theorem run5 (w : World) : Calls Try.prog 13 #[.int .u64 9223372036854775808, .int .u64 0] w fun e w' => e = .returned (.int .i64 0) ∧ w = w' := by
  have h := cmp_any 9223372036854775808 0 (by decide) (by decide) w
  rw [show cmpN 9223372036854775808 0 = 0 from by decide +kernel] at h
  exact h

theorem run6 (w : World) : Calls Try.prog 14 #[.int .u64 9223372036854775808, .int .u64 0] w fun e w' => e = .returned (.int .i64 (-1)) ∧ w = w' := by
  have h := order_any 9223372036854775808 0 (by decide) (by decide) w
  rw [show orderN 9223372036854775808 0 = -1 from by decide +kernel] at h
  exact h

theorem runs_any (w : World) : Calls Try.prog 3 #[] w fun e w' => e = .returned (.bool true) ∧ ∃ n, w.drewN n = w' := by
  go_enter Try.func3, Try.ntmps3
  go_wp2_with fail
  refine (run1 _).mono ?_; rintro e w' ⟨rfl, rfl⟩
  go_wp2_with fail
  refine (run2 _).mono ?_; rintro e w' ⟨rfl, n1, rfl⟩
  go_wp2_with fail
  refine (run3 _).mono ?_; rintro e w' ⟨rfl, n2, rfl⟩
  go_wp2_with fail
  refine (run4 _).mono ?_; rintro e w' ⟨rfl, n3, rfl⟩
  go_wp2_with fail
  refine (run5 _).mono ?_; rintro e w' ⟨rfl, rfl⟩
  go_wp2_with fail
  refine (run6 _).mono ?_; rintro e w' ⟨rfl, rfl⟩
  go_wp2_with fail
  go_ret
  exact ⟨rfl, _, rfl⟩

theorem grown_drewN (w : World) (n : Nat) : Grown w (w.drewN n) := by
  have h : Grown w w := Grown.refl w
  exact h

end Go.Proofs.Ytdkofonpkbjjmaa.Fp
