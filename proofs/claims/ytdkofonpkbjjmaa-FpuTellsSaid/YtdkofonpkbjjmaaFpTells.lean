/- FpuTells returns true for any operation, any words below 2^64 and any number: the program's answers are the document's. No other condition. -/
import Derived.Test.YtdkofonpkbjjmaaRefD
namespace Go.Proofs.Ytdkofonpkbjjmaa.Fp
open Go.RowKit
set_option linter.unusedVariables false

theorem neg_eq_of {x : Nat} (hx : x < 18446744073709551616) {s : Bool} (h : negW x = s) : ((x : Int) / 9223372036854775808 == 1) = s := by rw [neg_div x hx, h]

theorem up_bound {m k : Nat} (hm : m < 9007199254740992) (hk : k ≤ 10) : m * 2 ^ k < 9223372036854775808 := by
  have h1 : 2 ^ k ≤ 2 ^ 10 := Nat.pow_le_pow_right (by decide) hk
  have h2 : m * 2 ^ k ≤ m * 2 ^ 10 := Nat.mul_le_mul_left _ h1
  have e : (2 : Nat) ^ 10 = 1024 := by decide
  rw [e] at h2
  omega

theorem rint_all (x : Nat) (hx : x < 18446744073709551616) (w : World) :
    Calls Try.prog 18 #[.int .u64 (x : Int)] w fun e w' => e = .returned (.tuple #[.int .i64 (intN x).1, .bool (intN x).2]) ∧ w = w' := by
  cases hn : nanN x
  · have hk := kind_not_nan hn
    have hE := exp_bits x hx
    have hM := frac_bits x hx
    have hm := or_top52 _ (frac_lt x)
    have hf := frac_lt x
    have hs := neg_eq_of hx (s := negW x) rfl
    by_cases c1 : expN x < 1023
    · refine rint_small x _ _ hx hk _ hs hE hM c1 ?_ w
      rw [int_within_parts hn (by omega), int_parts_small c1]
      cases negW x <;> rfl
    · by_cases c2 : expN x ≤ 1074
      · have hi := int_within_parts hn (show expN x ≤ 1085 by omega)
        rw [int_parts_down hn (by omega) c2] at hi
        have ek : (-((expN x : Int) - 1075)).toNat = 1075 - expN x := by omega
        have ev : ((fracN x + 4503599627370496 : Nat) : Int) / 2 ^ (-((expN x : Int) - 1075)).toNat = (((fracN x + 4503599627370496) / 2 ^ (1075 - expN x) : Nat) : Int) := by
          rw [ek]; simp
        have hle : (fracN x + 4503599627370496) / 2 ^ (1075 - expN x) ≤ fracN x + 4503599627370496 := Nat.div_le_self _ _
        refine rint_down x _ _ _ hx hk _ hs hE hM hm (by omega) c2 ?_ ?_ ?_ w
        · rw [ev]; exact Int.natCast_nonneg _
        · rw [ev]; omega
        · rw [ev]; exact hi
      · by_cases c3 : expN x ≤ 1085
        · have hi := int_within_parts hn c3
          rw [int_parts_up hn (by omega) c3] at hi
          have ev : ((fracN x + 4503599627370496 : Nat) : Int) * 2 ^ (expN x - 1075) = (((fracN x + 4503599627370496) * 2 ^ (expN x - 1075) : Nat) : Int) := by simp
          have hle := up_bound (m := fracN x + 4503599627370496) (k := expN x - 1075) (by omega) (by omega)
          refine rint_up x _ _ _ hx hk _ hs hE hM hm (by omega) c3 ?_ ?_ ?_ w
          · rw [ev]; exact Int.natCast_nonneg _
          · rw [ev]; omega
          · rw [ev]; exact hi
        · cases hsg : negW x
          · exact rint_great x _ _ hx hk _ hE hM (by omega) (exp_lt x) (Or.inl ⟨neg_eq_of hx hsg, rfl⟩) (int_great_pos hn (by omega) hsg) w
          · have hi := int_great_neg hx hn (by omega) hsg
            by_cases e : x = 14114281232179134464
            · have e2 : (x == 14114281232179134464) = true := by simpa using e
              rw [e2] at hi
              exact rint_great x _ _ hx hk _ hE hM (by omega) (exp_lt x) (Or.inr (Or.inl ⟨neg_eq_of hx hsg, beq_iff_eq.2 (by omega), rfl⟩)) hi w
            · have e2 : (x == 14114281232179134464) = false := by simpa using e
              rw [e2] at hi
              exact rint_great x _ _ hx hk _ hE hM (by omega) (exp_lt x) (Or.inr (Or.inr ⟨neg_eq_of hx hsg, beq_eq_false_iff_ne.2 (by omega), rfl⟩)) hi w
  · exact rint_nan x hx (kind_of_nan hn) (by unfold intN; rw [hn]; rfl) w

attribute [local irreducible] Int.lt Int.le kindN cleanN placeN nanN orderN cmpN opN intN ofN

theorem tells_any (op : Int) (a b : Nat) (n : Int) (ha : a < 18446744073709551616) (hb : b < 18446744073709551616) (w : World) :
    Calls Try.prog 9 #[.int .i64 op, .int .u64 (a : Int), .int .u64 (b : Int), .int .i64 n] w fun e w' => e = .returned (.bool true) ∧ ∃ n, w.drewN n = w' := by
  go_enter Try.func9, Try.ntmps9
  go_wp2_with (first | (go_at_call 11; refine (int_all _ ha _).mono ?_; rintro e w' ⟨rfl, rfl⟩) | (go_at_call 18; refine (rint_all _ ha _).mono ?_; rintro e w' ⟨rfl, rfl⟩) | (go_at_call 15; refine (kind_any _ ha _).mono ?_; rintro e w' ⟨rfl, rfl⟩) | (go_at_call 19; refine (rkind_any _ ha _).mono ?_; rintro e w' ⟨rfl, rfl⟩) | (go_at_call 16; refine (clean_any _ ha _).mono ?_; rintro e w' ⟨rfl, rfl⟩) | (go_at_call 20; refine (rclean_all _ ha _).mono ?_; rintro e w' ⟨rfl, rfl⟩) | (go_at_call 12; refine (op_any _ _ _ ha hb _).mono ?_; rintro e w' ⟨rfl, n, rfl⟩) | (go_at_call 21; refine (rop_any _ _ _ ha hb _).mono ?_; rintro e w' ⟨rfl, n, rfl⟩) | (go_at_call 13; refine (cmp_any _ _ ha hb _).mono ?_; rintro e w' ⟨rfl, rfl⟩) | (go_at_call 22; refine (rcmp_any _ _ ha hb _).mono ?_; rintro e w' ⟨rfl, rfl⟩) | (go_at_call 14; refine (order_any _ _ ha hb _).mono ?_; rintro e w' ⟨rfl, rfl⟩) | (go_at_call 23; refine (rorder_any _ _ ha hb _).mono ?_; rintro e w' ⟨rfl, rfl⟩) | (go_at_call 24; refine (of_any _ _).mono ?_; rintro e w' ⟨rfl, rfl⟩) | (go_at_call 25; refine (rof_any _ _).mono ?_; rintro e w' ⟨rfl, rfl⟩) | (go_at_call 3; refine (runs_any _).mono ?_; rintro e w' ⟨rfl, n, rfl⟩))
  go_ret
  exact ⟨rfl, _, rfl⟩

end Go.Proofs.Ytdkofonpkbjjmaa.Fp
