/- The contracts of fpu.Cmp and fpu.Int at every word, of cloisterbook.Within, and of FpuRuns: chapter 1's runs are as they must be. -/
import Derived.Test.YtdpgpnjjonhdhaaFpOp
import Derived.Test.YtdpgpnjjonhdhaaIeeeC
namespace Go.Proofs.Ytdpgpnjjonhdhaa.Fp
open Go.RowKit
attribute [local irreducible] Int.lt Int.le

theorem cmp_any (a b : Nat) (ha : a < 18446744073709551616) (hb : b < 18446744073709551616) (w : World) :
    Calls Try.prog 29 #[.int .u64 (a : Int), .int .u64 (b : Int)] w fun e w' => e = .returned (.int .i64 (cmpN a b)) ∧ w = w' := by
  unfold cmpN
  cases h1 : nanN a
  · cases h2 : nanN b
    · exact cmp_yes a b ha hb h1 h2 (order_self h1) (order_self h2) w
    · exact cmp_no a b ha hb (Or.inr h2) w
  · exact cmp_no a b ha hb (Or.inl h1) w

theorem run2 (w : World) : Calls Try.prog 18 #[.int .i64 1, .int .u64 9223372036854775808, .int .u64 9223372036854775808] w fun e w' => e = .returned (.int .u64 9223372036854775808) ∧ ∃ n, w.drewN n = w' := by
  have h := op_any 1 9223372036854775808 9223372036854775808 (by decide) (by decide) w
  rw [show opN 1 9223372036854775808 9223372036854775808 = 9223372036854775808 from by decide +kernel] at h
  exact h

theorem run3 (w : World) : Calls Try.prog 18 #[.int .i64 5, .int .u64 0, .int .u64 9223372036854775808] w fun e w' => e = .returned (.int .u64 9223372036854775808) ∧ ∃ n, w.drewN n = w' := by
  have h := op_any 5 0 9223372036854775808 (by decide) (by decide) w
  rw [show opN 5 0 9223372036854775808 = 9223372036854775808 from by decide +kernel] at h
  exact h

theorem run4 (w : World) : Calls Try.prog 18 #[.int .i64 4, .int .u64 4607182418800017408, .int .u64 9223372036854775808] w fun e w' => e = .returned (.int .u64 18442240474082181120) ∧ ∃ n, w.drewN n = w' := by
  have h := op_any 4 4607182418800017408 9223372036854775808 (by decide) (by decide) w
  rw [show opN 4 4607182418800017408 9223372036854775808 = 18442240474082181120 from by decide +kernel] at h
  exact h

theorem run5 (w : World) : Calls Try.prog 29 #[.int .u64 9223372036854775808, .int .u64 0] w fun e w' => e = .returned (.int .i64 0) ∧ w = w' := by
  have h := cmp_any 9223372036854775808 0 (by decide) (by decide) w
  rw [show cmpN 9223372036854775808 0 = 0 from by decide +kernel] at h
  exact h

theorem run6 (w : World) : Calls Try.prog 20 #[.int .u64 9223372036854775808, .int .u64 0] w fun e w' => e = .returned (.int .i64 (-1)) ∧ w = w' := by
  have h := order_any 9223372036854775808 0 (by decide) (by decide) w
  rw [show orderN 9223372036854775808 0 = -1 from by decide +kernel] at h
  exact h

theorem grown_drewN (w : World) (n : Nat) : Grown w (w.drewN n) := by
  have h : Grown w w := Grown.refl w
  exact h

end Go.Proofs.Ytdpgpnjjonhdhaa.Fp
