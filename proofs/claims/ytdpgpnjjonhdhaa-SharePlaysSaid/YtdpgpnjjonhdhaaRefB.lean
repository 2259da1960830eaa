/- The contracts of the document's own answer to chapter 1 (cloisterref1), the second part, but for Int: each computes the same plain functions as the program (text FpDefs), for every word below 2^64. -/
import Derived.Test.YtdpgpnjjonhdhaaRefA
namespace Go.Proofs.Ytdpgpnjjonhdhaa.Fp
open Go.RowKit
set_option linter.unusedVariables false

theorem place_lt {x : Nat} (h : x < 18446744073709551616) : placeN x < 18446744073709551616 := by
  unfold placeN; split
  · decide
  · cases hs : negW x
    · have : x < 9223372036854775808 := by unfold negW at hs; simp at hs; omega
      simp; omega
    · simp; omega
theorem neg_div (x : Nat) (h : x < 18446744073709551616) : ((x : Int) / 9223372036854775808 == 1) = negW x := by
  unfold negW
  by_cases c : x < 9223372036854775808
  · have h1 : (x / 9223372036854775808 % 2 == 1) = false := by simp; omega
    rw [h1]; exact beq_eq_false_iff_ne.2 (by omega)
  · have h1 : (x / 9223372036854775808 % 2 == 1) = true := by simp; omega
    rw [h1]; exact beq_iff_eq.2 (by omega)
theorem not_bits (x : Nat) (h : x < 18446744073709551616) : bits .xor .u64 18446744073709551615 (x : Int) = ((18446744073709551615 - x : Nat) : Int) := by
  have h1 : bits .xor .u64 18446744073709551615 (x : Int) = ((18446744073709551615 ^^^ x : Nat) : Int) := u64_xor_nat 18446744073709551615 x (by decide) h
  have e : 18446744073709551615 ^^^ x = 18446744073709551615 - x := by
    have h2 : (18446744073709551615 : Nat) = 2 ^ 64 - 1 := by decide
    have h3 : x < 2 ^ 64 := by omega
    have h4 := BitVec.toNat_not (x := BitVec.ofNat 64 x)
    have h5 : (~~~ (BitVec.ofNat 64 x)) = BitVec.allOnes 64 ^^^ BitVec.ofNat 64 x := by
      rw [BitVec.allOnes_xor]
    rw [h5, BitVec.toNat_xor, BitVec.toNat_allOnes, BitVec.toNat_ofNat, Nat.mod_eq_of_lt h3] at h4
    rw [h2]; omega
  rw [h1, e]
theorem or_top (x : Nat) (h : x < 9223372036854775808) : bits .or .u64 (x : Int) 9223372036854775808 = ((x + 9223372036854775808 : Nat) : Int) := by
  have h1 : bits .or .u64 (x : Int) 9223372036854775808 = ((x ||| 9223372036854775808 : Nat) : Int) := u64_or_nat x 9223372036854775808 (by omega) (by decide)
  have e : x ||| 9223372036854775808 = x + 9223372036854775808 := by
    rw [Nat.or_comm]
    have h2 : (9223372036854775808 : Nat) = 2 ^ 63 := by decide
    have := nat_join 63 9223372036854775808 x (by decide) (by rw [← h2]; exact h)
    omega
  rw [h1, e]

theorem place_of_nan {x : Nat} (h : nanN x = true) : placeN x = 18446744073709551615 := by unfold placeN; rw [h]; rfl
theorem place_of_neg {x : Nat} (h : nanN x = false) (hs : negW x = true) : placeN x = 18446744073709551615 - x := by unfold placeN; rw [h, hs]; rfl
theorem place_of_pos {x : Nat} (h : nanN x = false) (hs : negW x = false) : placeN x = x + 9223372036854775808 := by unfold placeN; rw [h, hs]; rfl
theorem pos_lt {x : Nat} (h : x < 18446744073709551616) (hs : negW x = false) : x < 9223372036854775808 := by unfold negW at hs; simp at hs; omega

attribute [local irreducible] Int.lt Int.le kindN cleanN placeN nanN orderN cmpN opN

theorem rclean_any (x : Nat) (hx : x < 18446744073709551616) (h : kindN x = 1 ∧ cleanN x = 9221120237041090560 ∨ (kindN x == 1) = false ∧ cleanN x = x) (w : World) :
    Calls Try.prog 50 #[.int .u64 (x : Int)] w fun e w' => e = .returned (.int .u64 (cleanN x : Nat)) ∧ w = w' := by
  rcases h with ⟨h, hc⟩ | ⟨h, hc⟩
  all_goals
    go_enter Try.func50, Try.ntmps50
    go_wp2_with (go_at_call 51; refine (rkind_any _ hx _).mono ?_; rintro e w' ⟨rfl, rfl⟩)
    go_ret
    exact ⟨ret_int (by first | (rw [hc]; done) | (rw [hc]; rfl)), rfl⟩

theorem place_nan_w (x : Nat) (hx : x < 18446744073709551616) (hk : kindN x = 1) (hp : placeN x = 18446744073709551615) (w : World) :
    Calls Try.prog 52 #[.int .u64 (x : Int)] w fun e w' => e = .returned (.int .u64 (placeN x : Nat)) ∧ w = w' := by
  go_enter Try.func52, Try.ntmps52
  go_wp2_with (go_at_call 51; refine (rkind_any _ hx _).mono ?_; rintro e w' ⟨rfl, rfl⟩)
  go_ret
  exact ⟨ret_int (by rw [hp]; rfl), rfl⟩
theorem place_neg_w (x p : Nat) (hx : x < 18446744073709551616) (hk : (kindN x == 1) = false) (hd : ((x : Int) / 9223372036854775808 == 1) = true) (hb : bits .xor .u64 18446744073709551615 (x : Int) = (p : Int)) (hp : placeN x = p) (w : World) :
    Calls Try.prog 52 #[.int .u64 (x : Int)] w fun e w' => e = .returned (.int .u64 (placeN x : Nat)) ∧ w = w' := by
  go_enter Try.func52, Try.ntmps52
  go_wp2_with (go_at_call 51; refine (rkind_any _ hx _).mono ?_; rintro e w' ⟨rfl, rfl⟩)
  go_ret
  exact ⟨ret_int (by first | exact hb | (rw [hp]; exact hb)), rfl⟩
theorem place_pos_w (x p : Nat) (hx : x < 18446744073709551616) (hk : (kindN x == 1) = false) (hd : ((x : Int) / 9223372036854775808 == 1) = false) (hb : bits .or .u64 (x : Int) 9223372036854775808 = (p : Int)) (hp : placeN x = p) (w : World) :
    Calls Try.prog 52 #[.int .u64 (x : Int)] w fun e w' => e = .returned (.int .u64 (placeN x : Nat)) ∧ w = w' := by
  go_enter Try.func52, Try.ntmps52
  go_wp2_with (go_at_call 51; refine (rkind_any _ hx _).mono ?_; rintro e w' ⟨rfl, rfl⟩)
  go_ret
  exact ⟨ret_int (by first | rfl | (rw [hp]; done) | (rw [hp]; rfl)), rfl⟩

theorem rorder_w (a b p q : Nat) (pa : ∀ w : World, Calls Try.prog 52 #[.int .u64 (a : Int)] w fun e w' => e = .returned (.int .u64 (p : Int)) ∧ w = w') (pb : ∀ w : World, Calls Try.prog 52 #[.int .u64 (b : Int)] w fun e w' => e = .returned (.int .u64 (q : Int)) ∧ w = w') (w : World) :
    Calls Try.prog 44 #[.int .u64 (a : Int), .int .u64 (b : Int)] w fun e w' => e = .returned (.int .i64 (cmpI p q)) ∧ w = w' := by
  have Pa := Lib.hid pa
  have Pb := Lib.hid pb
  clear pa pb
  go_enter Try.func44, Try.ntmps44
  go_wp2_with fail
  refine (Pa.out _).mono ?_; rintro e w' ⟨rfl, rfl⟩
  go_wp2_with fail
  refine (Pb.out _).mono ?_; rintro e w' ⟨rfl, rfl⟩
  go_wp2_with fail
  all_goals (go_ret; refine ⟨ret_int ?_, rfl⟩; unfold cmpI; repeat' split)
  all_goals first | rfl | (exfalso; omega)

/-- Clean, whatever the word. -/
theorem rclean_all (x : Nat) (hx : x < 18446744073709551616) (w : World) :
    Calls Try.prog 50 #[.int .u64 (x : Int)] w fun e w' => e = .returned (.int .u64 (cleanN x : Nat)) ∧ w = w' := by
  refine rclean_any x hx ?_ w
  cases h : nanN x
  · exact Or.inr ⟨kind_not_nan h, clean_id h⟩
  · exact Or.inl ⟨kind_of_nan h, clean_nan h⟩

theorem rcmp_nan_a (a b : Nat) (ha : a < 18446744073709551616) (hb : b < 18446744073709551616) (h : kindN a = 1) (hc : cmpN a b = 2) (w : World) :
    Calls Try.prog 43 #[.int .u64 (a : Int), .int .u64 (b : Int)] w fun e w' => e = .returned (.int .i64 (cmpN a b)) ∧ w = w' := by
  go_enter Try.func43, Try.ntmps43
  go_wp2_with (go_at_call 51; refine (rkind_any _ (by assumption) _).mono ?_; rintro e w' ⟨rfl, rfl⟩)
  go_ret
  exact ⟨ret_int (by rw [hc]), rfl⟩
theorem rcmp_nan_b (a b : Nat) (ha : a < 18446744073709551616) (hb : b < 18446744073709551616) (h1 : (kindN a == 1) = false) (h : kindN b = 1) (hc : cmpN a b = 2) (w : World) :
    Calls Try.prog 43 #[.int .u64 (a : Int), .int .u64 (b : Int)] w fun e w' => e = .returned (.int .i64 (cmpN a b)) ∧ w = w' := by
  go_enter Try.func43, Try.ntmps43
  go_wp2_with (go_at_call 51; refine (rkind_any _ (by assumption) _).mono ?_; rintro e w' ⟨rfl, rfl⟩)
  go_ret
  exact ⟨ret_int (by rw [hc]), rfl⟩
theorem rcmp_zeros (a b : Nat) (ha : a < 18446744073709551616) (hb : b < 18446744073709551616) (h1 : kindN a = 3) (h2 : kindN b = 3) (hc : cmpN a b = 0) (w : World) :
    Calls Try.prog 43 #[.int .u64 (a : Int), .int .u64 (b : Int)] w fun e w' => e = .returned (.int .i64 (cmpN a b)) ∧ w = w' := by
  go_enter Try.func43, Try.ntmps43
  go_wp2_with (go_at_call 51; refine (rkind_any _ (by assumption) _).mono ?_; rintro e w' ⟨rfl, rfl⟩)
  go_ret
  exact ⟨ret_int (by rw [hc]), rfl⟩
theorem rcmp_else (a b : Nat) (c : Int) (ha : a < 18446744073709551616) (hb : b < 18446744073709551616) (h1 : (kindN a == 1) = false) (h2 : (kindN b == 1) = false) (h3 : (kindN a == 3) = false ∨ kindN a = 3 ∧ (kindN b == 3) = false)
    (ho : ∀ w : World, Calls Try.prog 44 #[.int .u64 (a : Int), .int .u64 (b : Int)] w fun e w' => e = .returned (.int .i64 c) ∧ w = w') (hc : cmpN a b = c) (w : World) :
    Calls Try.prog 43 #[.int .u64 (a : Int), .int .u64 (b : Int)] w fun e w' => e = .returned (.int .i64 (cmpN a b)) ∧ w = w' := by
  have Ho := Lib.hid ho
  clear ho
  rcases h3 with h3 | ⟨h3, h4⟩
  all_goals
    go_enter Try.func43, Try.ntmps43
    go_wp2_with (first | (go_at_call 51; refine (rkind_any _ (by assumption) _).mono ?_; rintro e w' ⟨rfl, rfl⟩) | (go_at_call 44; refine (Ho.out _).mono ?_; rintro e w' ⟨rfl, rfl⟩))
    go_ret
    exact ⟨ret_int (by rw [hc]), rfl⟩

end Go.Proofs.Ytdpgpnjjonhdhaa.Fp
