/- Plain facts on the words of float64: how two words stand to each other, sums, products. No program here; no condition but those written in each statement. -/
import Derived.Test.YtdpgpnjjonhdhaaIeeeB
namespace Go.Proofs.Ytdpgpnjjonhdhaa.Fp
open Ieee

theorem value_fin {x : Nat} : valueW x = if negW x then -((magOf (x % 9223372036854775808) * 2 ^ upOf (x % 9223372036854775808) : Nat) : Int) else ((magOf (x % 9223372036854775808) * 2 ^ upOf (x % 9223372036854775808) : Nat) : Int) := by
  unfold valueW; rw [units_eq]

/-- A signed number at a place, brought to a lower one. -/
theorem signed_low (s : Bool) (m k d : Nat) : signed s m k * 2 ^ d = if s then -((m * 2 ^ (k + d) : Nat) : Int) else ((m * 2 ^ (k + d) : Nat) : Int) := by
  rw [signed_units]
  have e : ((m * 2 ^ (k + d) : Nat) : Int) = ((m * 2 ^ k : Nat) : Int) * 2 ^ d := by
    rw [Nat.pow_add, ← Nat.mul_assoc]; simp
  rw [e]
  cases s
  · simp
  · simp [Int.neg_mul]

theorem order_fin (s t : Bool) (m n a b : Nat) :
    (Datum.number s m (-1074 + (a : Int))).order (Datum.number t n (-1074 + (b : Int))) =
      some (compare (if s then -((m * 2 ^ a : Nat) : Int) else ((m * 2 ^ a : Nat) : Int)) (if t then -((n * 2 ^ b : Nat) : Int) else ((n * 2 ^ b : Nat) : Int))) := by
  unfold Datum.order
  dsimp only
  have e1 : (-1074 + (a : Int) - min (-1074 + (a : Int)) (-1074 + (b : Int))).toNat = a - min a b := by omega
  have e2 : (-1074 + (b : Int) - min (-1074 + (a : Int)) (-1074 + (b : Int))).toNat = b - min a b := by omega
  rw [e1, e2, ← compare_scale _ _ (min a b), signed_low, signed_low]
  have e3 : a - min a b + min a b = a := by omega
  have e4 : b - min a b + min a b = b := by omega
  rw [e3, e4]

theorem compare_lt {a b : Int} (h : a < b) : compare a b = .lt := by
  show (if a < b then Ordering.lt else if a = b then Ordering.eq else Ordering.gt) = _
  rw [if_pos h]
theorem compare_gt {a b : Int} (h : b < a) : compare a b = .gt := by
  show (if a < b then Ordering.lt else if a = b then Ordering.eq else Ordering.gt) = _
  rw [if_neg (by omega), if_neg (by omega)]
theorem compare_eq {a b : Int} (h : a = b) : compare a b = .eq := by
  show (if a < b then Ordering.lt else if a = b then Ordering.eq else Ordering.gt) = _
  rw [if_neg (by omega), if_pos h]

theorem value_inf {x : Nat} (h : x % 9223372036854775808 = 9218868437227405312) : valueW x = if negW x then -(unitsR 9218868437227405312 : Int) else (unitsR 9218868437227405312 : Int) := by
  unfold valueW; rw [h]

theorem value_lt {x : Nat} (h : x % 9223372036854775808 < 9218868437227405312) : -(unitsR 9218868437227405312 : Int) < valueW x ∧ valueW x < (unitsR 9218868437227405312 : Int) := by
  have := units_lt h
  unfold valueW
  generalize unitsR 9218868437227405312 = I at *
  generalize unitsR (x % 9223372036854775808) = u at *
  split <;> omega

/-- The order of two words that are no NaNs is that of their numbers. -/
theorem order_val {x y : Nat} (hx : nanN x = false) (hy : nanN y = false) : double.order x y = some (compare (valueW x) (valueW y)) := by
  have gx := not_nan hx
  have gy := not_nan hy
  have hI : 0 < unitsR 9218868437227405312 := by have := units_lt (show 0 < 9218868437227405312 by decide); rw [units_zero] at this; exact this
  unfold Format.order
  by_cases h1 : x % 9223372036854775808 = 9218868437227405312
  · rw [read_inf h1, value_inf h1]
    by_cases h2 : y % 9223372036854775808 = 9218868437227405312
    · rw [read_inf h2, value_inf h2]
      generalize unitsR 9218868437227405312 = I at *
      cases negW x <;> cases negW y
      · rw [compare_eq (by simp)]; rfl
      · rw [compare_gt (by simp; omega)]; rfl
      · rw [compare_lt (by simp; omega)]; rfl
      · rw [compare_eq (by simp)]; rfl
    · have h2 : y % 9223372036854775808 < 9218868437227405312 := by omega
      have hv := value_lt h2
      rw [read_fin h2]
      generalize unitsR 9218868437227405312 = I at *
      generalize valueW y = v at *
      cases negW x
      · rw [compare_gt (by simp; omega)]; rfl
      · rw [compare_lt (by simp; omega)]; rfl
  · have h1 : x % 9223372036854775808 < 9218868437227405312 := by omega
    rw [read_fin h1]
    by_cases h2 : y % 9223372036854775808 = 9218868437227405312
    · have hv := value_lt h1
      rw [read_inf h2, value_inf h2]
      generalize unitsR 9218868437227405312 = I at *
      generalize valueW x = v at *
      cases negW y
      · rw [compare_lt (by simp; omega)]; rfl
      · rw [compare_gt (by simp; omega)]; rfl
    · have h2 : y % 9223372036854775808 < 9218868437227405312 := by omega
      rw [read_fin h2, order_fin, value_fin, value_fin]

theorem order_self {x : Nat} (hx : nanN x = false) : double.order x x = some .eq := by
  rw [order_val hx hx, compare_eq rfl]

theorem cmpF_val {x y : Nat} (hx : nanN x = false) (hy : nanN y = false) : cmpF x y = cmpI (valueW x) (valueW y) := by
  unfold cmpF cmpI
  have e : FloatKind.f64.format.order x y = some (compare (valueW x) (valueW y)) := order_val hx hy
  rw [e]
  rcases Int.lt_trichotomy (valueW x) (valueW y) with h | h | h
  · rw [compare_lt h, if_pos h]
  · rw [compare_eq h, if_neg (by omega), if_neg (by omega)]
  · rw [compare_gt h, if_neg (by omega), if_pos h]

/-- The rank of a word that is no NaN. -/
theorem rank_val {x : Nat} (h64 : x < 18446744073709551616) (hx : nanN x = false) : rankN x = if negW x then -((x % 9223372036854775808 : Nat) : Int) - 1 else ((x % 9223372036854775808 : Nat) : Int) := by
  unfold rankN cleanN negW
  rw [hx]
  simp only [Bool.false_eq_true, if_false]
  by_cases h : x < 9223372036854775808
  · have : (x / 9223372036854775808 % 2 == 1) = false := by simp; omega
    rw [if_pos (by omega), this]; simp; omega
  · have : (x / 9223372036854775808 % 2 == 1) = true := by simp; omega
    rw [if_neg (by omega), this]; simp; omega

theorem rank_nan {x : Nat} (hx : nanN x = true) : rankN x = 9221120237041090560 := by
  unfold rankN cleanN
  rw [hx, if_pos rfl]; decide

theorem log2_natAbs (n : Nat) : ((n : Int)).natAbs = n := rfl

/-- The word of a number in units of the least one, rounded; of nought the sign is given. -/
def wordV (z : Bool) (v : Int) : Nat := if v = 0 then double.word z 0 else double.word (decide (v < 0)) (rungOf v.natAbs (-1074))

theorem sum_fin (s t : Bool) (m n a b : Nat) :
    (((Datum.number s m (-1074 + (a : Int))).sum (Datum.number t n (-1074 + (b : Int)))).map double.write) =
      some (wordV (s && t) ((if s then -((m * 2 ^ a : Nat) : Int) else ((m * 2 ^ a : Nat) : Int)) + (if t then -((n * 2 ^ b : Nat) : Int) else ((n * 2 ^ b : Nat) : Int)))) := by
  unfold Datum.sum
  dsimp only
  have e1 : (-1074 + (a : Int) - min (-1074 + (a : Int)) (-1074 + (b : Int))).toNat = a - min a b := by omega
  have e2 : (-1074 + (b : Int) - min (-1074 + (a : Int)) (-1074 + (b : Int))).toNat = b - min a b := by omega
  have e0 : min (-1074 + (a : Int)) (-1074 + (b : Int)) = -1074 + ((min a b : Nat) : Int) := by omega
  rw [e1, e2, e0]
  have e3 : a - min a b + min a b = a := by omega
  have e4 : b - min a b + min a b = b := by omega
  have hv : (signed s m (a - min a b) + signed t n (b - min a b)) * 2 ^ (min a b) = (if s then -((m * 2 ^ a : Nat) : Int) else ((m * 2 ^ a : Nat) : Int)) + (if t then -((n * 2 ^ b : Nat) : Int) else ((n * 2 ^ b : Nat) : Int)) := by
    rw [Int.add_mul, signed_low, signed_low, e3, e4]
  rw [← hv]
  generalize signed s m (a - min a b) + signed t n (b - min a b) = v
  generalize min a b = k
  clear hv e0 e1 e2 e3 e4
  have hp : (0 : Int) < 2 ^ k := Int.pow_pos (by decide)
  show some (double.nearest (if v = 0 then s && t else decide (v < 0)) v.natAbs (-1074 + (k : Int))) = _
  unfold wordV
  by_cases h : v = 0
  · subst h
    simp [nearest_zero]
  · have h2 : v * 2 ^ k ≠ 0 := Int.mul_ne_zero h (by omega)
    rw [if_neg h, if_neg h2, nearest_eq _ _ _ (by omega), ← rungOf_scale _ _ _ (by omega)]
    have e5 : (v * 2 ^ k).natAbs = v.natAbs * 2 ^ k := by rw [Int.natAbs_mul, Int.natAbs_pow]; rfl
    have e6 : decide (v * 2 ^ k < 0) = decide (v < 0) := by
      congr 1
      apply propext
      constructor
      · intro q; exact Int.lt_of_mul_lt_mul_right (by simpa using q) (Int.le_of_lt hp)
      · intro q; have := Int.mul_lt_mul_of_pos_right q hp; simpa using this
    rw [e5, e6]

theorem add_fin {x y : Nat} (hx : x % 9223372036854775808 < 9218868437227405312) (hy : y % 9223372036854775808 < 9218868437227405312) :
    double.add x y = some (wordV (negW x && negW y) (valueW x + valueW y)) := by
  unfold Format.add
  rw [read_fin hx, read_fin hy, sum_fin, value_fin, value_fin]

theorem sub_fin {x y : Nat} (hx : x % 9223372036854775808 < 9218868437227405312) (hy : y % 9223372036854775808 < 9218868437227405312) :
    double.sub x y = some (wordV (negW x && !negW y) (valueW x - valueW y)) := by
  unfold Format.sub
  rw [read_fin hx, read_fin hy]
  show Option.map double.write ((Datum.number _ _ _).sum (Datum.number _ _ _)) = _
  rw [sum_fin, value_fin, value_fin]
  congr 2
  generalize ((magOf (y % 9223372036854775808) * 2 ^ upOf (y % 9223372036854775808) : Nat) : Int) = q
  generalize ((magOf (x % 9223372036854775808) * 2 ^ upOf (x % 9223372036854775808) : Nat) : Int) = p
  cases negW x <;> cases negW y <;> simp <;> omega

theorem wordV_clean (z : Bool) (v : Int) : cleanN (wordV z v) = wordV z v := by
  unfold wordV
  split
  · exact clean_word _ (by omega)
  · exact clean_word _ (rungOf_le _ _)

/-! ### Products -/

theorem mul_fin {x y : Nat} (hx : x % 9223372036854775808 < 9218868437227405312) (hy : y % 9223372036854775808 < 9218868437227405312) :
    double.mul x y = some (double.nearest (negW x ^^ negW y) (magOf (x % 9223372036854775808) * magOf (y % 9223372036854775808)) ((-1074 + (upOf (x % 9223372036854775808) : Int)) + (-1074 + (upOf (y % 9223372036854775808) : Int)))) := by
  unfold Format.mul
  rw [read_fin hx, read_fin hy]
  rfl

theorem nearest_word (s : Bool) (m : Nat) (p : Int) : ∃ r, r ≤ 9218868437227405312 ∧ double.nearest s m p = double.word s r := by
  by_cases h : m = 0
  · subst h; exact ⟨0, by omega, nearest_zero s p⟩
  · exact ⟨rungOf m p, rungOf_le m p, nearest_eq s m p h⟩

theorem nearest_clean (s : Bool) (m : Nat) (p : Int) : cleanN (double.nearest s m p) = double.nearest s m p := by
  obtain ⟨r, h1, h2⟩ := nearest_word s m p
  rw [h2, clean_word s h1]

/-! ### Towards nought -/

theorem cut_zero (neg : Bool) (n d : Nat) : Toward.zero.cut neg n d = n / 2 ^ d := by
  unfold Toward.cut
  dsimp only
  rw [Nat.shiftLeft_eq, Nat.one_mul]
  show n / _ + 0 = _
  rw [Nat.add_zero]
  by_cases hd : d ≤ n.log2 + 2
  · rw [Nat.min_eq_left hd]
  · rw [Nat.min_eq_right (by omega)]
    have hl : n < 2 ^ (n.log2 + 1) := Nat.lt_log2_self
    have h2 : 2 ^ (n.log2 + 2) = 2 * 2 ^ (n.log2 + 1) := by rw [Nat.pow_succ, Nat.mul_comm]
    have h3 : 2 ^ (n.log2 + 2) ≤ 2 ^ d := Nat.pow_le_pow_right (by omega) (by omega)
    rw [Nat.div_eq_of_lt (by omega), Nat.div_eq_of_lt (by omega)]

/-- How far one lies above the least one, in binary digits. -/
def tenK : Nat := 1074

theorem tenK_eq : tenK = 1074 := rfl

/-- Units of one. -/
def oneU : Nat := 2 ^ tenK

theorem oneU_eq : oneU = 2 ^ tenK := rfl

theorem oneU_pos : 0 < oneU := by unfold oneU; exact Nat.two_pow_pos tenK

theorem place_div (m u K : Nat) : m * 2 ^ (-(K : Int) + (u : Int)).toNat / 2 ^ (-(-(K : Int) + (u : Int))).toNat = m * 2 ^ u / 2 ^ K := by
  by_cases h : K ≤ u
  · obtain ⟨d, rfl⟩ : ∃ d, u = d + K := ⟨u - K, by omega⟩
    have e1 : (-(K : Int) + ((d + K : Nat) : Int)).toNat = d := by omega
    have e2 : (-(-(K : Int) + ((d + K : Nat) : Int))).toNat = 0 := by omega
    rw [e1, e2, Nat.pow_zero, Nat.div_one, Nat.pow_add, ← Nat.mul_assoc, Nat.mul_div_cancel _ (Nat.two_pow_pos _)]
  · obtain ⟨d, rfl⟩ : ∃ d, K = d + u := ⟨K - u, by omega⟩
    have e1 : (-((d + u : Nat) : Int) + (u : Int)).toNat = 0 := by omega
    have e2 : (-(-((d + u : Nat) : Int) + (u : Int))).toNat = d := by omega
    rw [e1, e2, Nat.pow_zero, Nat.mul_one, Nat.pow_add, Nat.mul_div_mul_right _ _ (Nat.two_pow_pos _)]

theorem toInt_fin {x : Nat} (hx : x % 9223372036854775808 < 9218868437227405312) :
    (FloatKind.f64.decode x).toInt .zero = some (if negW x then -((unitsR (x % 9223372036854775808) / oneU : Nat) : Int) else ((unitsR (x % 9223372036854775808) / oneU : Nat) : Int)) := by
  show (double.read x).toInt .zero = _
  rw [read_fin hx]
  unfold Datum.toInt Datum.integral
  dsimp only
  rw [cut_zero, signed_units, Nat.shiftLeft_eq, units_eq, Nat.pow_zero, Nat.mul_one]
  generalize magOf (x % 9223372036854775808) = m
  generalize upOf (x % 9223372036854775808) = u
  have e := place_div m u tenK
  rw [show -(tenK : Int) = -1074 from rfl] at e
  rw [e]
  rfl

theorem up_lift (a k K : Nat) : a * 2 ^ (K + k) = a * 2 ^ k * 2 ^ K := by
  rw [Nat.add_comm, Nat.pow_add, Nat.mul_assoc]

theorem units_edge : unitsR 4890909195324358656 = 9223372036854775808 * oneU := by
  have e1 : magOf 4890909195324358656 = 4503599627370496 := by decide
  have e2 : upOf 4890909195324358656 = tenK + 11 := by decide
  have e3 : (4503599627370496 : Nat) * 2 ^ 11 = 9223372036854775808 := by decide
  rw [units_eq, e1, e2, up_lift, e3, oneU_eq]

theorem value_edge : valueW 4890909195324358656 = ((9223372036854775808 * oneU : Nat) : Int) := by
  have h1 : negW 4890909195324358656 = false := by decide
  have h2 : 4890909195324358656 % 9223372036854775808 = 4890909195324358656 := by decide
  unfold valueW
  rw [h1, h2, units_edge]; rfl

theorem value_negEdge : valueW 14114281232179134464 = -((9223372036854775808 * oneU : Nat) : Int) := by
  have h1 : negW 14114281232179134464 = true := by decide
  have h2 : 14114281232179134464 % 9223372036854775808 = 4890909195324358656 := by decide
  unfold valueW
  rw [h1, h2, units_edge]; rfl

theorem nan_edge : nanN 4890909195324358656 = false := by decide
theorem nan_negEdge : nanN 14114281232179134464 = false := by decide

/-- What is between the edges is finite. -/
theorem fin_between {x : Nat} (hx : nanN x = false) (h1 : valueW x < ((9223372036854775808 * oneU : Nat) : Int)) (h2 : -((9223372036854775808 * oneU : Nat) : Int) ≤ valueW x) :
    x % 9223372036854775808 < 9218868437227405312 := by
  have h := not_nan hx
  rcases Nat.lt_or_eq_of_le h with h | h
  · exact h
  · exfalso
    have hv := value_inf h
    have he := units_lt (show 4890909195324358656 < 9218868437227405312 by decide)
    rw [units_edge] at he
    rw [hv] at h1 h2
    generalize 9223372036854775808 * oneU = E at *
    generalize unitsR 9218868437227405312 = I at *
    cases hn : negW x
    · rw [hn] at h1; simp at h1; omega
    · rw [hn] at h2; simp at h2; omega

/-- The number towards nought of what is between the edges is an int. -/
theorem int_within {x : Nat} (hx : nanN x = false) (ho : FloatKind.f64.format.order x 4890909195324358656 = some .lt) (hl : FloatKind.f64.format.order x 14114281232179134464 ≠ some .lt) :
    floatToIntVal .f64 x .i64 = some (((FloatKind.f64.decode x).toInt .zero).getD 0) := by
  have o1 : FloatKind.f64.format.order x 4890909195324358656 = some (compare (valueW x) (valueW 4890909195324358656)) := order_val hx nan_edge
  have o2 : FloatKind.f64.format.order x 14114281232179134464 = some (compare (valueW x) (valueW 14114281232179134464)) := order_val hx nan_negEdge
  rw [value_edge] at o1
  rw [value_negEdge] at o2
  rw [o1] at ho
  rw [o2] at hl
  have h1 : valueW x < ((9223372036854775808 * oneU : Nat) : Int) := by
    rcases Int.lt_trichotomy (valueW x) ((9223372036854775808 * oneU : Nat) : Int) with h | h | h
    · exact h
    · rw [compare_eq h] at ho; cases ho
    · rw [compare_gt h] at ho; cases ho
  have h2 : -((9223372036854775808 * oneU : Nat) : Int) ≤ valueW x := by
    rcases Int.lt_trichotomy (valueW x) (-((9223372036854775808 * oneU : Nat) : Int)) with h | h | h
    · rw [compare_lt h] at hl; exact absurd rfl hl
    · omega
    · omega
  have hf := fin_between hx h1 h2
  unfold floatToIntVal
  rw [toInt_fin hf]
  simp only [Option.getD_some]
  have hp := oneU_pos
  unfold valueW at h1 h2
  cases hn : negW x
  · rw [hn] at h1 h2
    simp at h1 h2
    have : unitsR (x % 9223372036854775808) / oneU < 9223372036854775808 := (Nat.div_lt_iff_lt_mul hp).2 (by omega)
    generalize unitsR (x % 9223372036854775808) / oneU = q at *
    have h3 : IntKind.i64.min ≤ (q : Int) := by show (-9223372036854775808 : Int) ≤ q; omega
    have h4 : (q : Int) ≤ IntKind.i64.max := by show (q : Int) ≤ 9223372036854775807; omega
    exact if_pos ⟨h3, h4⟩
  · rw [hn] at h1 h2
    simp at h1 h2
    have : unitsR (x % 9223372036854775808) / oneU ≤ 9223372036854775808 := by
      have h3 : unitsR (x % 9223372036854775808) < 9223372036854775809 * oneU := by omega
      have := (Nat.div_lt_iff_lt_mul hp).2 h3
      omega
    generalize unitsR (x % 9223372036854775808) / oneU = q at *
    have h3 : IntKind.i64.min ≤ -(q : Int) := by show (-9223372036854775808 : Int) ≤ -(q : Int); omega
    have h4 : -(q : Int) ≤ IntKind.i64.max := by show -(q : Int) ≤ 9223372036854775807; omega
    exact if_pos ⟨h3, h4⟩

end Go.Proofs.Ytdpgpnjjonhdhaa.Fp
