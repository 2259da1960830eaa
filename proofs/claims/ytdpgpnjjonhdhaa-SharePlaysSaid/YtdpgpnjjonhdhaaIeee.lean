/- Plain facts on the words of float64 and what they stand for: how they are read, ordered, written and rounded. No program here; no condition but those written in each statement. -/
import Ieee.Arith
import Derived.Laws.FloatBits
namespace Go.Proofs.Ytdpgpnjjonhdhaa.Fp
open Ieee

/-- The sign of a word. -/
def negW (x : Nat) : Bool := x / 9223372036854775808 % 2 == 1

/-- A rung's number, in units of the least one. -/
def unitsR (r : Nat) : Nat := if r < 4503599627370496 then r else (4503599627370496 + r % 4503599627370496) * 2 ^ (r / 4503599627370496 - 1)

def magOf (r : Nat) : Nat := if r < 4503599627370496 then r else 4503599627370496 + r % 4503599627370496
def upOf (r : Nat) : Nat := r / 4503599627370496 - 1

theorem units_eq (r : Nat) : unitsR r = magOf r * 2 ^ upOf r := by
  unfold unitsR magOf upOf
  split
  · rename_i h
    rw [Nat.div_eq_of_lt h]; simp
  · rfl

theorem signWeight_d : double.signWeight = 9223372036854775808 := rfl
theorem binade_d : double.binade = 4503599627370496 := rfl
theorem infRung_d : double.infRung = 9218868437227405312 := by decide
theorem leastPlace_d : double.leastPlace = -1074 := by decide
theorem fractionBits_d : double.fractionBits = 52 := rfl

theorem read_eq (x : Nat) : double.read x =
    if x % 9223372036854775808 < 9218868437227405312 then .number (negW x) (magOf (x % 9223372036854775808)) (-1074 + (upOf (x % 9223372036854775808) : Int))
    else if x % 9223372036854775808 = 9218868437227405312 then .infinity (negW x)
    else .nan (negW x) (x % 9223372036854775808 - 9218868437227405312) := by
  unfold Format.read
  rw [signWeight_d, binade_d, infRung_d, leastPlace_d]
  dsimp only
  generalize x % 9223372036854775808 = r
  unfold magOf upOf negW
  by_cases h1 : r < 4503599627370496
  · rw [if_pos h1, if_pos (by omega), if_pos h1, Nat.div_eq_of_lt h1]; rfl
  · rw [if_neg h1]
    by_cases h2 : r < 9218868437227405312
    · rw [if_pos h2, if_pos h2, if_neg h1]
    · rw [if_neg h2, if_neg h2]

theorem magOf_pos {r : Nat} (h : 0 < r) : 0 < magOf r := by unfold magOf; split <;> omega
theorem magOf_zero {r : Nat} : magOf r = 0 ↔ r = 0 := by unfold magOf; split <;> omega
theorem magOf_lt (r : Nat) : magOf r < 9007199254740992 := by unfold magOf; split <;> omega

/-- Rungs rise as their numbers. -/
theorem units_lt_succ (r : Nat) : unitsR r < unitsR (r + 1) := by
  unfold unitsR
  by_cases h1 : r + 1 < 4503599627370496
  · rw [if_pos (by omega), if_pos h1]; omega
  · rw [if_neg h1]
    by_cases h2 : r < 4503599627370496
    · have : r + 1 = 4503599627370496 := by omega
      rw [if_pos h2, this]; simp; omega
    · rw [if_neg h2]
      by_cases h3 : r % 4503599627370496 = 4503599627370495
      · have e1 : (r + 1) % 4503599627370496 = 0 := by omega
        have e2 : (r + 1) / 4503599627370496 - 1 = (r / 4503599627370496 - 1) + 1 := by omega
        rw [e1, e2, Nat.pow_succ, h3]
        have := Nat.two_pow_pos (r / 4503599627370496 - 1)
        generalize 2 ^ (r / 4503599627370496 - 1) = p at *
        omega
      · have e1 : (r + 1) % 4503599627370496 = r % 4503599627370496 + 1 := by omega
        have e2 : (r + 1) / 4503599627370496 = r / 4503599627370496 := by omega
        rw [e1, e2]
        exact Nat.mul_lt_mul_of_pos_right (by omega) (Nat.two_pow_pos _)

theorem units_lt {a b : Nat} (h : a < b) : unitsR a < unitsR b := by
  induction b with
  | zero => omega
  | succ b ih =>
    by_cases e : a = b
    · subst e; exact units_lt_succ _
    · exact Nat.lt_trans (ih (by omega)) (units_lt_succ b)

theorem units_zero : unitsR 0 = 0 := rfl

theorem units_inj {a b : Nat} (h : unitsR a = unitsR b) : a = b := by
  rcases Nat.lt_trichotomy a b with h1 | h1 | h1
  · have := units_lt h1; omega
  · exact h1
  · have := units_lt h1; omega

theorem units_le {a b : Nat} (h : a ≤ b) : unitsR a ≤ unitsR b := by
  by_cases e : a = b
  · subst e; exact Nat.le_refl _
  · exact Nat.le_of_lt (units_lt (by omega))

/-! ### Rounding -/

/-- 'n / 2 ^ d' to the nearest whole number, ties to even. -/
def roundE (n d : Nat) : Nat := n / 2 ^ d + (if 2 ^ d < 2 * (n % 2 ^ d) ∨ (2 ^ d = 2 * (n % 2 ^ d) ∧ n / 2 ^ d % 2 = 1) then 1 else 0)

theorem cut_eq (neg : Bool) (n d : Nat) : Toward.even.cut neg n d = roundE n d := by
  unfold Toward.cut roundE
  dsimp only
  have key : ∀ g : Nat, (n / g + ((decide (g < 2 * (n % g)) || (g == 2 * (n % g) && n / g % 2 == 1)) : Bool).toNat) = n / g + (if g < 2 * (n % g) ∨ (g = 2 * (n % g) ∧ n / g % 2 = 1) then 1 else 0) := by
    intro g
    congr 1
    by_cases h1 : g < 2 * (n % g)
    · simp [h1]
    · by_cases h2 : g = 2 * (n % g) ∧ n / g % 2 = 1
      · obtain ⟨h2, h3⟩ := h2
        rw [if_pos (Or.inr ⟨h2, h3⟩)]
        simp [← h2, h3]
      · rw [if_neg (by intro h; rcases h with h | h; exact h1 h; exact h2 h)]
        simp only [not_and] at h2
        have : (decide (g < 2 * (n % g)) || (g == 2 * (n % g) && n / g % 2 == 1)) = false := by
          simp only [Bool.or_eq_false_iff, decide_eq_false_iff_not, Bool.and_eq_false_iff, beq_eq_false_iff_ne, ne_eq]
          refine ⟨h1, ?_⟩
          by_cases h4 : g = 2 * (n % g)
          · exact Or.inr (h2 h4)
          · exact Or.inl h4
        rw [this]; rfl
  rw [key, Nat.shiftLeft_eq, Nat.one_mul]
  by_cases hd : d ≤ n.log2 + 2
  · rw [Nat.min_eq_left hd]
  · rw [Nat.min_eq_right (by omega)]
    have hl : n < 2 ^ (n.log2 + 1) := Nat.lt_log2_self
    have h2 : 2 ^ (n.log2 + 2) = 2 * 2 ^ (n.log2 + 1) := by rw [Nat.pow_succ, Nat.mul_comm]
    have h3 : 2 ^ (n.log2 + 2) ≤ 2 ^ d := Nat.pow_le_pow_right (by omega) (by omega)
    have a1 : n / 2 ^ (n.log2 + 2) = 0 := Nat.div_eq_of_lt (by omega)
    have a2 : n % 2 ^ (n.log2 + 2) = n := Nat.mod_eq_of_lt (by omega)
    have b1 : n / 2 ^ d = 0 := Nat.div_eq_of_lt (by omega)
    have b2 : n % 2 ^ d = n := Nat.mod_eq_of_lt (by omega)
    rw [a1, a2, b1, b2, if_neg (by omega), if_neg (by omega)]

theorem roundE_zero (n : Nat) : roundE n 0 = n := by
  unfold roundE
  simp [Nat.mod_one]

theorem roundE_exact (n d k : Nat) : roundE (n * 2 ^ (d + k)) d = n * 2 ^ k := by
  unfold roundE
  have h : 0 < 2 ^ d := Nat.two_pow_pos d
  rw [Nat.pow_add, ← Nat.mul_assoc, Nat.mul_right_comm]
  rw [Nat.mul_div_cancel _ h, Nat.mul_mod_left, if_neg (by omega)]
  omega

theorem roundE_scale (n d k : Nat) : roundE (n * 2 ^ k) (d + k) = roundE n d := by
  unfold roundE
  have h : 0 < 2 ^ k := Nat.two_pow_pos k
  rw [Nat.pow_add, Nat.mul_div_mul_right _ _ h, Nat.mul_mod_mul_right]
  congr 1
  have e : ∀ a b : Nat, a * 2 ^ k < 2 * (b * 2 ^ k) ↔ a < 2 * b := by
    intro a b
    rw [← Nat.mul_assoc]
    exact ⟨fun q => Nat.lt_of_mul_lt_mul_right q, fun q => Nat.mul_lt_mul_of_pos_right q h⟩
  have e2 : ∀ a b : Nat, a * 2 ^ k = 2 * (b * 2 ^ k) ↔ a = 2 * b := by
    intro a b
    rw [← Nat.mul_assoc]
    exact ⟨fun q => Nat.eq_of_mul_eq_mul_right h q, fun q => by rw [q]⟩
  simp only [e, e2]

/-- The rung of the word nearest to 'm * 2 ^ p', of a number that is not nought. -/
def rungOf (m : Nat) (p : Int) : Nat :=
  min ((max (p + m.log2 - 52) (-1074) + 1074).toNat * 4503599627370496 + roundE (m * 2 ^ (p - max (p + m.log2 - 52) (-1074)).toNat) (max (p + m.log2 - 52) (-1074) - p).toNat) 9218868437227405312

theorem nearest_eq (neg : Bool) (m : Nat) (p : Int) (h : m ≠ 0) : double.nearest neg m p = double.word neg (rungOf m p) := by
  unfold Format.nearest rungOf
  rw [if_neg h, binade_d, infRung_d, leastPlace_d, fractionBits_d]
  dsimp only
  rw [cut_eq, Nat.shiftLeft_eq]
  have e : ∀ q : Int, q - -1074 = q + 1074 := by intro q; omega
  rw [e]
  rfl

theorem nearest_zero (neg : Bool) (p : Int) : double.nearest neg 0 p = double.word neg 0 := by
  unfold Format.nearest; rw [if_pos rfl]

theorem log2_scale (m k : Nat) (h : m ≠ 0) : (m * 2 ^ k).log2 = m.log2 + k := by
  induction k with
  | zero => simp
  | succ k ih =>
    have : m * 2 ^ k ≠ 0 := Nat.mul_ne_zero h (Nat.ne_of_gt (Nat.two_pow_pos k))
    rw [Nat.pow_succ, ← Nat.mul_assoc, Nat.mul_comm _ 2, Nat.log2_two_mul this, ih]; omega

theorem rungOf_scale (m k : Nat) (p : Int) (h : m ≠ 0) : rungOf (m * 2 ^ k) p = rungOf m (p + k) := by
  unfold rungOf
  rw [log2_scale m k h]
  have e : (p + ((m.log2 + k : Nat) : Int) - 52) = p + k + m.log2 - 52 := by omega
  rw [e]
  generalize max (p + (k : Int) + (m.log2 : Int) - 52) (-1074) = l
  congr 2
  by_cases h1 : l ≤ p
  · have e1 : (l - p).toNat = 0 := by omega
    have e2 : (l - (p + (k : Int))).toNat = 0 := by omega
    have e3 : (p + (k : Int) - l).toNat = k + (p - l).toNat := by omega
    rw [e1, e2, e3, roundE_zero, roundE_zero, Nat.pow_add, Nat.mul_assoc]
  · have e0 : (p - l).toNat = 0 := by omega
    rw [e0, Nat.pow_zero, Nat.mul_one]
    by_cases h2 : l ≤ p + k
    · have e2 : (l - (p + (k : Int))).toNat = 0 := by omega
      have e3 : k = (l - p).toNat + (p + (k : Int) - l).toNat := by omega
      rw [e2, roundE_zero]
      conv => lhs; rw [e3]
      rw [roundE_exact]
    · have e1 : (l - p).toNat = (l - (p + (k : Int))).toNat + k := by omega
      have e2 : (p + (k : Int) - l).toNat = 0 := by omega
      rw [e1, e2, roundE_scale, Nat.pow_zero, Nat.mul_one]

end Go.Proofs.Ytdpgpnjjonhdhaa.Fp
