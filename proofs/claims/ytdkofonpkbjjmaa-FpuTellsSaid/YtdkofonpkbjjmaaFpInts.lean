/- FpuInts returns true for any number and any word below 2^64. No other condition. -/
import Derived.Test.YtdkofonpkbjjmaaFpRuns
import Derived.Test.YtdkofonpkbjjmaaFpNans
namespace Go.Proofs.Ytdkofonpkbjjmaa.Fp
open Go.RowKit
set_option linter.unusedVariables false

/-- What a word between the edges tells. -/
theorem intN_val {x : Nat} (hx : nanN x = false) (h1 : valueW x < ((9223372036854775808 * oneU : Nat) : Int)) (h2 : -((9223372036854775808 * oneU : Nat) : Int) ≤ valueW x) :
    intN x = ((valueW x).tdiv oneU, true) := by
  have hf := fin_between hx h1 h2
  have o1 : FloatKind.f64.format.order x 4890909195324358656 = some (compare (valueW x) (valueW 4890909195324358656)) := order_val hx nan_edge
  have o2 : FloatKind.f64.format.order x 14114281232179134464 = some (compare (valueW x) (valueW 14114281232179134464)) := order_val hx nan_negEdge
  rw [value_edge, compare_lt h1] at o1
  rw [value_negEdge] at o2
  have o3 : FloatKind.f64.format.order x 14114281232179134464 ≠ some .lt := by
    rw [o2]
    rcases Int.lt_trichotomy (valueW x) (-((9223372036854775808 * oneU : Nat) : Int)) with h | h | h
    · omega
    · rw [compare_eq h]; intro q; cases q
    · rw [compare_gt h]; intro q; cases q
  unfold intN
  rw [hx, o1, toInt_fin hf]
  simp only [Bool.false_eq_true, if_false]
  rw [if_neg (by simp), if_neg o3]
  simp only [Option.getD_some]
  congr 1
  unfold valueW
  cases negW x
  · simp
  · simp [Int.neg_tdiv]

/-- A number of few digits is told as it is. -/
theorem value_wordV (z : Bool) (v : Int) (m k : Nat) (h : v.natAbs = m * 2 ^ k) (hl : m.log2 ≤ 52) (ho : m.log2 + k ≤ 2097) : valueW (wordV z v) = v ∧ nanN (wordV z v) = false := by
  unfold wordV
  by_cases h0 : v = 0
  · rw [if_pos h0, value_word _ (by omega), units_zero, h0]
    refine ⟨by cases z <;> rfl, word_ne_nan _ (by omega)⟩
  · rw [if_neg h0]
    have hm : m ≠ 0 := by intro e; subst e; simp at h; omega
    have e := rungOf_scale m k (-1074) hm
    rw [← h] at e
    obtain ⟨r1, r2, r3⟩ := rungOf_exact m (-1074 + (k : Int)) hm hl (by omega) (by omega)
    rw [← e] at r1 r2 r3
    refine ⟨?_, word_ne_nan _ (by omega)⟩
    rw [value_word _ (by omega), r3]
    have e2 : (-1074 + (k : Int) + 1074).toNat = k := by omega
    rw [e2, ← h]
    by_cases hv : v < 0
    · have : decide (v < 0) = true := decide_eq_true hv
      rw [this]; simp; omega
    · have : decide (v < 0) = false := decide_eq_false hv
      rw [this]; simp; omega

theorem ofN_wordV (n : Int) : ofN n = wordV false (n * oneU) := by
  have hp := oneU_pos
  show Ieee.double.nearest (decide (n < 0)) n.natAbs 0 = _
  unfold wordV
  by_cases h : n = 0
  · subst h
    rw [if_pos (by simp)]
    exact nearest_zero _ _
  · have h2 : n * (oneU : Int) ≠ 0 := Int.mul_ne_zero h (by omega)
    rw [if_neg h2, nearest_eq _ _ _ (by omega)]
    have e := rungOf_scale n.natAbs tenK (-1074) (by omega)
    have e2 : (n * (oneU : Int)).natAbs = n.natAbs * 2 ^ tenK := by rw [Int.natAbs_mul, Int.natAbs_natCast, oneU_eq]
    have e3 : -1074 + (tenK : Int) = 0 := rfl
    rw [e2, e, e3]
    suffices hd : decide (n < 0) = decide (n * (oneU : Int) < 0) by rw [hd]
    apply decide_eq_decide.2
    constructor
    · intro q; exact Int.mul_neg_of_neg_of_pos q (by omega)
    · intro q
      rcases Int.lt_or_le n 0 with h3 | h3
      · exact h3
      · have := Int.mul_nonneg h3 (show (0 : Int) ≤ oneU by omega)
        omega

theorem tdiv_oneU (n : Int) : (n * (oneU : Int)).tdiv oneU = n := Int.mul_tdiv_cancel _ (by have := oneU_pos; omega)

theorem scale_lt {a b : Int} (h : a < b) : a * (oneU : Int) < b * (oneU : Int) := Int.mul_lt_mul_of_pos_right h (by have := oneU_pos; omega)
theorem scale_le {a b : Int} (h : a ≤ b) : a * (oneU : Int) ≤ b * (oneU : Int) := Int.mul_le_mul_of_nonneg_right h (by omega)

theorem edge_cast : ((9223372036854775808 * oneU : Nat) : Int) = 9223372036854775808 * (oneU : Int) := by simp

/-- A whole number of at most 53 digits comes back. -/
theorem int_of {k : Int} (h1 : -9007199254740992 ≤ k) (h2 : k ≤ 9007199254740992) : valueW (ofN k) = k * oneU ∧ nanN (ofN k) = false := by
  rw [ofN_wordV]
  by_cases h : k.natAbs = 9007199254740992
  · refine value_wordV false _ 1 (tenK + 53) ?_ (by decide) (by decide)
    rw [Int.natAbs_mul, h, Nat.add_comm, Nat.pow_add, pow53, Int.natAbs_natCast, ← oneU_eq, Nat.one_mul]
  · refine value_wordV false _ k.natAbs tenK ?_ ?_ ?_
    · rw [Int.natAbs_mul, Int.natAbs_natCast, oneU_eq]
    · exact log2_le_of_lt (by rw [pow53]; omega)
    · have : k.natAbs.log2 ≤ 52 := log2_le_of_lt (by rw [pow53]; omega)
      have e : tenK = 1074 := rfl
      omega

theorem int_back {k : Int} (h1 : -9007199254740992 ≤ k) (h2 : k ≤ 9007199254740992) : intN (ofN k) = (k, true) := by
  obtain ⟨hv, hn⟩ := int_of h1 h2
  rw [intN_val hn, hv, tdiv_oneU]
  · rw [hv, edge_cast]; exact scale_lt (by omega)
  · rw [hv, edge_cast, ← Int.neg_mul]; exact scale_le (by omega)

def halfK : Nat := 1073
theorem halfK_eq : halfK = 1073 := rfl
/-- Units of a half. -/
def halfU : Nat := 2 ^ halfK
theorem halfU_eq : halfU = 2 ^ halfK := rfl
theorem halfU_pos : 0 < halfU := by rw [halfU_eq]; exact Nat.two_pow_pos halfK
theorem tenK_half : tenK = halfK + 1 := rfl
theorem half_two : oneU = 2 * halfU := by
  rw [oneU_eq, halfU_eq, tenK_half, Nat.pow_succ, Nat.mul_comm]

def upK : Nat := 1021
theorem value_half : valueW 4602678819172646912 = (halfU : Int) := by
  have h1 : negW 4602678819172646912 = false := by decide
  have h2 : 4602678819172646912 % 9223372036854775808 = 4602678819172646912 := by decide
  have h3 : magOf 4602678819172646912 = 2 ^ 52 := by decide
  have h4 : upOf 4602678819172646912 = upK := by decide
  have h5 : halfK = 52 + upK := rfl
  unfold valueW
  rw [h1, h2, units_eq, h3, h4, ← Nat.pow_add, ← h5, ← halfU_eq]; rfl

theorem tdiv_half (h : Int) : ((2 * h + 1) * (halfU : Int)).tdiv (2 * (halfU : Int)) = if 0 ≤ h then h else h + 1 := by
  have hp := halfU_pos
  rw [Int.mul_tdiv_mul_of_pos_left _ _ (show (0 : Int) < (halfU : Int) by omega)]
  have := Int.tmod_add_mul_tdiv (2 * h + 1) 2
  split
  · have h2 := Int.tdiv_eq_ediv_of_nonneg (a := 2 * h + 1) (b := 2) (by omega)
    rw [h2]; omega
  · have h2 : (2 * h + 1).tdiv 2 = -((-(2 * h + 1)).tdiv 2) := by rw [Int.neg_tdiv, Int.neg_neg]
    have h3 := Int.tdiv_eq_ediv_of_nonneg (a := -(2 * h + 1)) (b := 2) (by omega)
    rw [h2, h3]; omega

/-- A whole number and a half, towards nought. -/
theorem int_half {h : Int} (h1 : -1099511627776 ≤ h) (h2 : h ≤ 1099511627776) : intN (opN 1 (ofN h) 4602678819172646912) = (if 0 ≤ h then h else h + 1, true) := by
  obtain ⟨hv, hn⟩ := int_of (k := h) (by omega) (by omega)
  have hp := halfU_pos
  have hb : valueW (ofN h) < ((9223372036854775808 * oneU : Nat) : Int) := by rw [hv, edge_cast]; exact scale_lt (by omega)
  have hb2 : -((9223372036854775808 * oneU : Nat) : Int) ≤ valueW (ofN h) := by rw [hv, edge_cast, ← Int.neg_mul]; exact scale_le (by omega)
  have hf := fin_between hn hb hb2
  have e : floatBits .add .f64 (ofN h) 4602678819172646912 = _ := add_fin hf (by decide)
  have e2 : opN 1 (ofN h) 4602678819172646912 = wordV (negW (ofN h) && negW 4602678819172646912) (valueW (ofN h) + valueW 4602678819172646912) := by
    show arithN .add (ofN h) 4602678819172646912 = _
    rw [arith_some e, wordV_clean]
  have e3 : valueW (ofN h) + valueW 4602678819172646912 = (2 * h + 1) * (halfU : Int) := by
    rw [hv, value_half, half_two, Int.natCast_mul, Int.add_mul, Int.one_mul, ← Int.mul_assoc, Int.mul_comm h]; rfl
  rw [e2, e3]
  have hl : (2 * h + 1).natAbs.log2 ≤ 52 := log2_le_of_lt (by rw [pow53]; omega)
  obtain ⟨w1, w2⟩ := value_wordV (negW (ofN h) && negW 4602678819172646912) ((2 * h + 1) * (halfU : Int)) (2 * h + 1).natAbs halfK (by rw [Int.natAbs_mul, Int.natAbs_natCast, halfU_eq]) hl (by have := halfK_eq; omega)
  have hU : (oneU : Int) = 2 * (halfU : Int) := by rw [half_two]; simp
  rw [intN_val w2, w1, hU, tdiv_half]
  · rw [w1, edge_cast, hU, ← Int.mul_assoc]
    exact Int.mul_lt_mul_of_pos_right (by omega) (by omega)
  · rw [w1, edge_cast, hU, ← Int.mul_assoc, ← Int.neg_mul]
    exact Int.mul_le_mul_of_nonneg_right (by omega) (by omega)

end Go.Proofs.Ytdkofonpkbjjmaa.Fp
