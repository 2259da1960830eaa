/- FpuNans returns true for any operation and any words below 2^64: the cases joined. No other condition. -/
import Derived.Test.YtdkofonpkbjjmaaFpNansA
namespace Go.Proofs.Ytdkofonpkbjjmaa.Fp
open Go.RowKit

def nanOf (p : Nat) : Nat := (9221120237041090560 ||| (p &&& 2251799813685247)) ||| (p &&& 9223372036854775808)

theorem nanOf_lt (p : Nat) : nanOf p < 18446744073709551616 := by
  have h1 : p &&& 2251799813685247 < 2 ^ 64 := Nat.and_lt_two_pow _ (by decide)
  have h2 : p &&& 9223372036854775808 < 2 ^ 64 := Nat.and_lt_two_pow _ (by decide)
  have h3 : 9221120237041090560 ||| (p &&& 2251799813685247) < 2 ^ 64 := Nat.or_lt_two_pow (by decide) h1
  have h4 : nanOf p < 2 ^ 64 := Nat.or_lt_two_pow h3 h2
  have e : (2 : Nat) ^ 64 = 18446744073709551616 := by decide
  rw [e] at h4; exact h4

theorem nanOf_nan (p : Nat) : nanN (nanOf p) = true := by
  unfold nanN magN nanOf
  apply decide_eq_true
  have e : (9223372036854775808 : Nat) = 2 ^ 63 := by decide
  have h1 : ((9221120237041090560 ||| (p &&& 2251799813685247)) ||| (p &&& 9223372036854775808)) % 9223372036854775808 = 9221120237041090560 ||| (p &&& 2251799813685247) := by
    have h2 : p &&& 2251799813685247 < 2 ^ 63 := Nat.and_lt_two_pow _ (by decide)
    have h3 : 9221120237041090560 ||| (p &&& 2251799813685247) < 2 ^ 63 := Nat.or_lt_two_pow (by decide) h2
    have h4 : (p &&& 9223372036854775808) % 2 ^ 63 = 0 := by
      rw [and_sign]; split <;> decide
    conv => lhs; rw [e]
    rw [Nat.or_mod_two_pow, Nat.mod_eq_of_lt h3]
    rw [e] at h4
    rw [h4, Nat.or_zero]
  rw [h1]
  have := Nat.left_le_or (n := 9221120237041090560) (m := p &&& 2251799813685247)
  exact Nat.lt_of_lt_of_le (by decide) this

theorem nanOf_bits (p : Nat) (h : p < 18446744073709551616) : bits .or .u64 (bits .or .u64 9221120237041090560 (bits .and .u64 (p : Int) 2251799813685247)) (bits .and .u64 (p : Int) 9223372036854775808) = ((nanOf p : Nat) : Int) := by
  have h1 : p &&& 2251799813685247 < 2 ^ 64 := Nat.and_lt_two_pow _ (by decide)
  have h2 : p &&& 9223372036854775808 < 2 ^ 64 := Nat.and_lt_two_pow _ (by decide)
  have h3 : 9221120237041090560 ||| (p &&& 2251799813685247) < 2 ^ 64 := Nat.or_lt_two_pow (by decide) h1
  have e : (2 : Nat) ^ 64 = 18446744073709551616 := by decide
  rw [e] at h1 h2 h3
  have a1 : bits .and .u64 (p : Int) 2251799813685247 = ((p &&& 2251799813685247 : Nat) : Int) := u64_and_nat p 2251799813685247 h (by decide)
  have a2 : bits .and .u64 (p : Int) 9223372036854775808 = ((p &&& 9223372036854775808 : Nat) : Int) := u64_and_nat p 9223372036854775808 h (by decide)
  have a3 : bits .or .u64 9221120237041090560 ((p &&& 2251799813685247 : Nat) : Int) = ((9221120237041090560 ||| (p &&& 2251799813685247) : Nat) : Int) := u64_or_nat 9221120237041090560 _ (by decide) h1
  rw [a1, a2, a3]
  exact u64_or_nat _ _ h3 h2

theorem wrap_small (n : Nat) (h : n < 9223372036854775808) : IntKind.i64.wrap (n : Int) = n := by
  unfold IntKind.wrap; simp [IntKind.bits, IntKind.signed]; omega

theorem low3 (op : Int) : 8 ≤ bits .or .i64 (bits .and .i64 op 7) 8 ∧ bits .or .i64 (bits .and .i64 op 7) 8 ≤ 15 := by
  have h0 : (BitVec.ofInt 64 7).toNat = 7 := by decide
  have h8 : (BitVec.ofInt 64 8).toNat = 8 := by decide
  have h1 : bits .and .i64 op 7 = ((((BitVec.ofInt 64 op).toNat &&& 7 : Nat)) : Int) := by
    show IntKind.i64.wrap (((BitVec.ofInt 64 op) &&& (BitVec.ofInt 64 7)).toNat : Int) = _
    rw [BitVec.toNat_and, h0]
    have : (BitVec.ofInt 64 op).toNat &&& 7 ≤ 7 := Nat.and_le_right
    exact wrap_small _ (by omega)
  have h2 : (BitVec.ofInt 64 op).toNat &&& 7 ≤ 7 := Nat.and_le_right
  rw [h1]
  generalize (BitVec.ofInt 64 op).toNat &&& 7 = m at *
  have h3 : bits .or .i64 (m : Int) 8 = ((m ||| 8 : Nat) : Int) := by
    show IntKind.i64.wrap (((BitVec.ofInt 64 (m : Int)) ||| (BitVec.ofInt 64 8)).toNat : Int) = _
    have hm : (BitVec.ofInt 64 (m : Int)).toNat = m := ofInt_u64 m (by omega)
    rw [BitVec.toNat_or, h8, hm]
    have : m ||| 8 < 2 ^ 4 := Nat.or_lt_two_pow (by omega) (by decide)
    exact wrap_small _ (by omega)
  rw [h3]
  have h4 : m ||| 8 < 2 ^ 4 := Nat.or_lt_two_pow (by omega) (by decide)
  have h5 : 8 ≤ m ||| 8 := Nat.right_le_or
  omega

theorem op_high {M : Int} (h : 8 ≤ M) (a b : Nat) : opN M a b = 9221120237041090560 := by
  unfold opN
  rw [if_neg (by omega), if_neg (by omega), if_neg (by omega), if_neg (by omega), if_neg (by omega), if_neg (by omega)]; rfl

theorem op_clean (k : Int) (a b : Nat) : cleanN (opN k a b) = opN k a b := by
  have hc : ∀ x : Nat, cleanN (cleanN x) = cleanN x := by
    intro x
    cases h : nanN x
    · rw [clean_id h, clean_id h]
    · rw [clean_nan h]; decide
  have ha : ∀ q : BinOp, cleanN (arithN q a b) = arithN q a b := by
    intro q; unfold arithN; split
    · exact hc _
    · decide
  have hp : ∀ w : Int, cleanN (pickN a b w) = pickN a b w := by
    intro w; unfold pickN; split <;> exact hc _
  unfold opN
  repeat' split
  all_goals first | exact ha _ | exact hp _ | decide

theorem op_low_left {k : Int} (h1 : 1 ≤ k) (h2 : k ≤ 4) {a b : Nat} (h : nanN a = true) : opN k a b = 9221120237041090560 := by
  have : k = 1 ∨ k = 2 ∨ k = 3 ∨ k = 4 := by omega
  rcases this with rfl | rfl | rfl | rfl
  · exact arith_nan_left .add (by simp) h
  · exact arith_nan_left .sub (by simp) h
  · exact arith_nan_left .mul (by simp) h
  · exact arith_nan_left .quo (by simp) h
theorem op_low_right {k : Int} (h1 : 1 ≤ k) (h2 : k ≤ 4) {a b : Nat} (h : nanN b = true) : opN k a b = 9221120237041090560 := by
  have : k = 1 ∨ k = 2 ∨ k = 3 ∨ k = 4 := by omega
  rcases this with rfl | rfl | rfl | rfl
  · exact arith_nan_right .add (by simp) h
  · exact arith_nan_right .sub (by simp) h
  · exact arith_nan_right .mul (by simp) h
  · exact arith_nan_right .quo (by simp) h

theorem pick_right_nan {a n : Nat} (k : Int) (h : nanN n = true) : pickN a n k = cleanN a := by
  cases ha : nanN a
  · exact pick_nan_right k ha h
  · rw [pick_nan_left k ha, clean_nan h, clean_nan ha]

theorem nans_any (op : Int) (a b p : Nat) (ha : a < 18446744073709551616) (hb : b < 18446744073709551616) (hp : p < 18446744073709551616) (w : World) :
    Calls Try.prog 7 #[.int .i64 op, .int .u64 (a : Int), .int .u64 (b : Int), .int .u64 (p : Int)] w fun e w' => e = .returned (.bool true) ∧ ∃ n, w.drewN n = w' := by
  have hN := nanOf_lt p
  have hn := nanOf_bits p hp
  have hnn := nanOf_nan p
  have hcn := clean_nan hnn
  have hM := op_high (low3 op).1 a b
  have hk := within_bounds op 1 6 (by decide)
  have hZl := opN_lt (withinI op 1 6) ha hb
  have hZc := op_clean (withinI op 1 6) a b
  have hz : opN (withinI op 1 6) a b = 9221120237041090560 ∨ (kindN (opN (withinI op 1 6) a b) == 1) = false := by
    cases h : nanN (opN (withinI op 1 6) a b)
    · exact Or.inr (kind_not_nan h)
    · left; rw [← hZc, clean_nan h]
  have hkz : kindN 9221120237041090560 = 1 := by decide
  by_cases h5 : withinI op 1 6 = 5
  · have hx : opN 5 (nanOf p) b = cleanN b := by rw [op5, pick_nan_left _ hnn]
    have hy : opN 5 a (nanOf p) = cleanN a := by rw [op5, pick_right_nan _ hnn]
    rw [h5] at hz hZl
    rcases hz with hz | hz
    · exact nans_5n op _ a b p _ ha hb hN hn h5 hcn rfl hM hx hy hz hkz w
    · exact nans_5w op _ a b p _ _ ha hb hN hn h5 hcn rfl hM hx hy rfl hZl hz w
  · by_cases h6 : withinI op 1 6 = 6
    · have hx : opN 6 (nanOf p) b = cleanN b := by rw [op6, pick_nan_left _ hnn]
      have hy : opN 6 a (nanOf p) = cleanN a := by rw [op6, pick_right_nan _ hnn]
      rw [h6] at hz hZl
      rcases hz with hz | hz
      · exact nans_6n op _ a b p _ ha hb hN hn h6 hcn rfl hM hx hy hz hkz w
      · exact nans_6w op _ a b p _ _ ha hb hN hn h6 hcn rfl hM hx hy rfl hZl hz w
    · have k5 : (withinI op 1 6 == 5) = false := beq_eq_false_iff_ne.2 h5
      have k6 : (withinI op 1 6 == 6) = false := beq_eq_false_iff_ne.2 h6
      have hx : opN (withinI op 1 6) (nanOf p) b = 9221120237041090560 := op_low_left hk.1 (by omega) hnn
      have hy : opN (withinI op 1 6) a (nanOf p) = 9221120237041090560 := op_low_right hk.1 (by omega) hnn
      rcases hz with hz | hz
      · exact nans_Kn op _ _ a b p _ ha hb hN hn rfl hcn rfl hM k5 k6 hx hy hz hkz w
      · exact nans_Kw op _ _ a b p _ _ ha hb hN hn rfl hcn rfl hM k5 k6 hx hy rfl hZl hz w

end Go.Proofs.Ytdkofonpkbjjmaa.Fp
