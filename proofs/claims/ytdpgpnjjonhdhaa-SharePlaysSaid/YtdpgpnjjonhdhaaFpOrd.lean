/- Plain facts on the total order of words, on the least and the greatest, and on how it stands to the order of numbers. No program here; no condition but those written in each statement. -/
import Derived.Test.YtdpgpnjjonhdhaaFpClass
namespace Go.Proofs.Ytdpgpnjjonhdhaa.Fp
open Ieee

theorem order_lt {a b : Nat} (h : rankN a < rankN b) : orderN a b = -1 := by unfold orderN cmpI; rw [if_pos h]
theorem order_gt {a b : Nat} (h : rankN b < rankN a) : orderN a b = 1 := by unfold orderN cmpI; rw [if_neg (by omega), if_pos h]
theorem order_eq {a b : Nat} (h : rankN a = rankN b) : orderN a b = 0 := by unfold orderN cmpI; rw [if_neg (by omega), if_neg (by omega)]
theorem order_refl (a : Nat) : orderN a a = 0 := order_eq rfl

theorem order_le_iff (a b : Nat) : orderN a b ≤ 0 ↔ rankN a ≤ rankN b := by
  rcases Int.lt_trichotomy (rankN a) (rankN b) with h | h | h
  · rw [order_lt h]; omega
  · rw [order_eq h]; omega
  · rw [order_gt h]; omega
theorem order_pos_iff (a b : Nat) : 0 < orderN a b ↔ rankN b < rankN a := by
  have := order_le_iff a b; omega
theorem order_nonneg_iff (a b : Nat) : 0 ≤ orderN a b ↔ rankN b ≤ rankN a := by
  rcases Int.lt_trichotomy (rankN a) (rankN b) with h | h | h
  · rw [order_lt h]; omega
  · rw [order_eq h]; omega
  · rw [order_gt h]; omega

theorem rank_le_inf {x : Nat} (h64 : x < 18446744073709551616) (hx : nanN x = false) : rankN x ≤ 9218868437227405312 := by
  have := not_nan hx
  rw [rank_val h64 hx]
  split <;> omega

theorem rank_below_nan {a b : Nat} (hb64 : b < 18446744073709551616) (ha : nanN a = true) (hb : nanN b = false) : rankN b < rankN a := by
  have := rank_le_inf hb64 hb
  rw [rank_nan ha]; omega

theorem rank_inj {a b : Nat} (ha64 : a < 18446744073709551616) (hb64 : b < 18446744073709551616) (ha : nanN a = false) (hb : nanN b = false) (h : rankN a = rankN b) : a = b := by
  rw [rank_val ha64 ha, rank_val hb64 hb] at h
  rw [← word_of ha64, ← word_of hb64]
  cases hna : negW a <;> cases hnb : negW b <;> rw [hna, hnb] at h <;> simp at h
  · have : a % 9223372036854775808 = b % 9223372036854775808 := by omega
    rw [this]
  · omega
  · omega
  · have : a % 9223372036854775808 = b % 9223372036854775808 := by omega
    rw [this]

theorem clean_id {a : Nat} (h : nanN a = false) : cleanN a = a := by unfold cleanN; rw [h]; rfl
theorem clean_nan {a : Nat} (h : nanN a = true) : cleanN a = 9221120237041090560 := by unfold cleanN; rw [h]; rfl

theorem op5 (a b : Nat) : opN 5 a b = pickN a b (-1) := rfl
theorem op6 (a b : Nat) : opN 6 a b = pickN a b 1 := rfl

theorem pick_nan_left {a b : Nat} (k : Int) (h : nanN a = true) : pickN a b k = cleanN b := by unfold pickN; rw [h]; rfl
theorem pick_nan_right {a b : Nat} (k : Int) (ha : nanN a = false) (h : nanN b = true) : pickN a b k = cleanN a := by unfold pickN; rw [ha, h]; rfl
theorem pick_yes {a b : Nat} {k : Int} (ha : nanN a = false) (hb : nanN b = false) (h : orderN b a = k) : pickN a b k = b := by
  unfold pickN; rw [ha, hb, h]; simp [clean_id hb]
theorem pick_no {a b : Nat} {k : Int} (ha : nanN a = false) (hb : nanN b = false) (h : orderN b a ≠ k) : pickN a b k = a := by
  unfold pickN
  have : (orderN b a == k) = false := beq_eq_false_iff_ne.2 h
  rw [ha, hb, this]; simp [clean_id ha]

/-- Numbers rise as ranks, but for zeros. -/
theorem value_lt_of_rank {a b : Nat} (ha64 : a < 18446744073709551616) (hb64 : b < 18446744073709551616) (ha : nanN a = false) (hb : nanN b = false)
    (hz : ¬ (a % 9223372036854775808 = 0 ∧ b % 9223372036854775808 = 0)) (h : rankN a < rankN b) : valueW a < valueW b := by
  rw [rank_val ha64 ha, rank_val hb64 hb] at h
  unfold valueW
  cases hna : negW a <;> cases hnb : negW b <;> rw [hna, hnb] at h <;> simp at h ⊢
  · have := units_lt (a := a % 9223372036854775808) (b := b % 9223372036854775808) (by omega)
    omega
  · omega
  · by_cases e : a % 9223372036854775808 = 0
    · have := units_lt (a := 0) (b := b % 9223372036854775808) (by omega)
      rw [units_zero] at this
      omega
    · have := units_lt (a := 0) (b := a % 9223372036854775808) (by omega)
      rw [units_zero] at this
      omega
  · have := units_lt (a := b % 9223372036854775808) (b := a % 9223372036854775808) (by omega)
    omega

theorem value_of_zero {a : Nat} (h : a % 9223372036854775808 = 0) : valueW a = 0 := by
  unfold valueW; rw [h, units_zero]; split <;> rfl

theorem cmp_nan_left {a b : Nat} (h : nanN a = true) : cmpN a b = 2 := by unfold cmpN; rw [h]; rfl
theorem cmp_nan_right {a b : Nat} (h : nanN b = true) : cmpN a b = 2 := by unfold cmpN; rw [h]; simp
theorem cmp_val {a b : Nat} (ha : nanN a = false) (hb : nanN b = false) : cmpN a b = cmpI (valueW a) (valueW b) := by
  unfold cmpN; rw [ha, hb, cmpF_val ha hb]; simp
theorem cmp_zeros {a b : Nat} (ha : a % 9223372036854775808 = 0) (hb : b % 9223372036854775808 = 0) : cmpN a b = 0 := by
  rw [cmp_val (nan_of_fin (by omega)) (nan_of_fin (by omega)), value_of_zero ha, value_of_zero hb]; rfl
theorem cmp_self {a : Nat} (ha : nanN a = false) : cmpN a a = 0 := by
  rw [cmp_val ha ha]; unfold cmpI; rw [if_neg (by omega), if_neg (by omega)]
theorem cmp_lt {a b : Nat} (ha64 : a < 18446744073709551616) (hb64 : b < 18446744073709551616) (ha : nanN a = false) (hb : nanN b = false)
    (hz : ¬ (a % 9223372036854775808 = 0 ∧ b % 9223372036854775808 = 0)) (h : rankN a < rankN b) : cmpN a b = -1 := by
  have := value_lt_of_rank ha64 hb64 ha hb hz h
  rw [cmp_val ha hb]; unfold cmpI; rw [if_pos this]
theorem cmp_gt {a b : Nat} (ha64 : a < 18446744073709551616) (hb64 : b < 18446744073709551616) (ha : nanN a = false) (hb : nanN b = false)
    (hz : ¬ (a % 9223372036854775808 = 0 ∧ b % 9223372036854775808 = 0)) (h : rankN b < rankN a) : cmpN a b = 1 := by
  have := value_lt_of_rank hb64 ha64 hb ha (fun q => hz ⟨q.2, q.1⟩) h
  rw [cmp_val ha hb]; unfold cmpI; rw [if_neg (by omega), if_pos this]

theorem kind_not_nan {a : Nat} (h : nanN a = false) : (kindN a == 1) = false := by
  have := not_nan h
  rcases classes a with c | c | c | c
  · rw [h] at c; cases c
  · rw [kind_of_inf c]; decide
  · rw [kind_of_zero c]; decide
  · rcases kind_of_fin c.1 c.2 with k | k <;> rw [k] <;> decide
theorem kind_not_zero {a : Nat} (h : a % 9223372036854775808 ≠ 0) : (kindN a == 3) = false := by
  rcases classes a with c | c | c | c
  · rw [kind_of_nan c]; decide
  · rw [kind_of_inf c]; decide
  · exact absurd c h
  · rcases kind_of_fin c.1 c.2 with k | k <;> rw [k] <;> decide

end Go.Proofs.Ytdpgpnjjonhdhaa.Fp
