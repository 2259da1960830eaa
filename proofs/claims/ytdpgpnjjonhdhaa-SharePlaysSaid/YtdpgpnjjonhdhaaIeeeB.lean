/- Plain facts on the words of float64: a word and its number, exact rounding, the order of words. No program here; no condition but those written in each statement. -/
import Derived.Test.YtdpgpnjjonhdhaaIeee
import Derived.Test.YtdpgpnjjonhdhaaFpDefs
namespace Go.Proofs.Ytdpgpnjjonhdhaa.Fp
open Ieee

theorem pow52 : (2 : Nat) ^ 52 = 4503599627370496 := by decide
theorem pow53 : (2 : Nat) ^ 53 = 9007199254740992 := by decide

theorem log2_le_of_lt {m k : Nat} (h : m < 2 ^ (k + 1)) : m.log2 ≤ k := by
  by_cases e : m = 0
  · subst e; simp
  · have := (Nat.log2_lt e).2 h; omega

theorem log2_52 {m : Nat} (h1 : 4503599627370496 ≤ m) (h2 : m < 9007199254740992) : m.log2 = 52 := by
  have a : m.log2 ≤ 52 := log2_le_of_lt (by rw [pow53]; exact h2)
  have b : 52 ≤ m.log2 := (Nat.le_log2 (by omega)).2 (by rw [pow52]; exact h1)
  omega

/-- The word of a rung reads as that rung. -/
theorem rungOf_canon (r : Nat) (h : r < 9218868437227405312) : rungOf (magOf r) (-1074 + (upOf r : Int)) = r := by
  unfold rungOf magOf upOf
  by_cases h1 : r < 4503599627370496
  · rw [if_pos h1, Nat.div_eq_of_lt h1]
    have hl : r.log2 ≤ 51 := log2_le_of_lt (by rw [pow52]; exact h1)
    have e : max (-1074 + ((0 - 1 : Nat) : Int) + (r.log2 : Int) - 52) (-1074) = -1074 := by omega
    rw [e]
    have e1 : ((-1074 : Int) + 1074).toNat = 0 := by decide
    have e2 : (-1074 + ((0 - 1 : Nat) : Int) - -1074).toNat = 0 := by decide
    have e3 : (-1074 - (-1074 + ((0 - 1 : Nat) : Int))).toNat = 0 := by decide
    rw [e1, e2, e3, roundE_zero]; omega
  · rw [if_neg h1]
    have hl : (4503599627370496 + r % 4503599627370496).log2 = 52 := log2_52 (by omega) (by omega)
    rw [hl]
    generalize hq : r / 4503599627370496 - 1 = q
    have e : max (-1074 + (q : Int) + ((52 : Nat) : Int) - 52) (-1074) = -1074 + q := by omega
    rw [e]
    have e1 : (-1074 + (q : Int) + 1074).toNat = q := by omega
    have e2 : (-1074 + (q : Int) - (-1074 + (q : Int))).toNat = 0 := by omega
    rw [e1, e2, roundE_zero]; omega

/-- Whatever stands for a rung's number is rounded to that rung. -/
theorem rungOf_units (m k r : Nat) (h0 : r ≠ 0) (h : r < 9218868437227405312) (hu : m * 2 ^ k = unitsR r) : rungOf m (-1074 + (k : Int)) = r := by
  have hm : m ≠ 0 := by
    intro e
    subst e
    have := units_lt (Nat.pos_of_ne_zero h0)
    rw [units_zero] at this
    omega
  have hc : magOf r ≠ 0 := by have := magOf_pos (Nat.pos_of_ne_zero h0); omega
  rw [← rungOf_scale m k _ hm, hu, units_eq, rungOf_scale _ _ _ hc, rungOf_canon r h]

/-- No rounding where there are few digits. -/
theorem rungOf_exact (m : Nat) (p : Int) (h0 : m ≠ 0) (hl : m.log2 ≤ 52) (hp : -1074 ≤ p) (ho : (m.log2 : Int) + p ≤ 1023) :
    0 < rungOf m p ∧ rungOf m p < 9218868437227405312 ∧ unitsR (rungOf m p) = m * 2 ^ (p + 1074).toNat := by
  have hd : (max (p + m.log2 - 52) (-1074) - p).toNat = 0 := by omega
  unfold rungOf
  rw [hd, roundE_zero]
  by_cases h1 : p + m.log2 - 52 ≤ -1074
  · have e : max (p + (m.log2 : Int) - 52) (-1074) = -1074 := by omega
    rw [e]
    have e1 : ((-1074 : Int) + 1074).toNat = 0 := by decide
    have e2 : (p - -1074).toNat = (p + 1074).toNat := by omega
    rw [e1, e2]
    generalize hk : (p + 1074).toNat = k
    have hlt : m * 2 ^ k < 9007199254740992 := by
      have := log2_scale m k h0
      have h2 : (m * 2 ^ k).log2 < 53 := by omega
      have := (Nat.log2_lt (Nat.mul_ne_zero h0 (Nat.ne_of_gt (Nat.two_pow_pos k)))).1 h2
      rw [pow53] at this; exact this
    have hpos : 0 < m * 2 ^ k := Nat.mul_pos (by omega) (Nat.two_pow_pos k)
    obtain ⟨M, hM⟩ : ∃ M, M = m * 2 ^ k := ⟨_, rfl⟩
    rw [← hM] at hlt hpos ⊢
    clear hM
    have h6 : M ≤ 9218868437227405312 := by omega
    rw [Nat.zero_mul, Nat.zero_add, Nat.min_eq_left h6]
    refine ⟨hpos, by omega, ?_⟩
    unfold unitsR
    split
    · rfl
    · have : M / 4503599627370496 - 1 = 0 := by omega
      rw [this]; omega
  · have e : max (p + (m.log2 : Int) - 52) (-1074) = p + m.log2 - 52 := by omega
    rw [e]
    obtain ⟨L, hL⟩ : ∃ L : Nat, p + (m.log2 : Int) - 52 + 1074 = L := ⟨(p + (m.log2 : Int) - 52 + 1074).toNat, by omega⟩
    have e1 : (p + (m.log2 : Int) - 52 + 1074).toNat = L := by omega
    have e2 : (p - (p + (m.log2 : Int) - 52)).toNat = 52 - m.log2 := by omega
    have e3 : (p + 1074).toNat = (52 - m.log2) + L := by omega
    rw [e1, e2, e3, Nat.pow_add, ← Nat.mul_assoc]
    have hlog := log2_scale m (52 - m.log2) h0
    have hne : m * 2 ^ (52 - m.log2) ≠ 0 := Nat.mul_ne_zero h0 (Nat.ne_of_gt (Nat.two_pow_pos _))
    generalize m * 2 ^ (52 - m.log2) = M at *
    have hM : M.log2 = 52 := by omega
    have hlt : M < 9007199254740992 := by
      have := (Nat.log2_lt hne).1 (show M.log2 < 53 by omega)
      rw [pow53] at this; exact this
    have hge : 4503599627370496 ≤ M := by
      have := (Nat.le_log2 hne).1 (show 52 ≤ M.log2 by omega)
      rw [pow52] at this; exact this
    have hL2 : L ≤ 2045 := by omega
    clear hlog hM e3 e2 e1 hL e h1 hd ho hp hl h0 hne
    have h5 : L * 4503599627370496 ≤ 2045 * 4503599627370496 := Nat.mul_le_mul_right _ hL2
    have h6 : L * 4503599627370496 + M ≤ 9218868437227405312 := Nat.le_trans (Nat.add_le_add h5 (Nat.le_of_lt hlt)) (by decide)
    clear h5
    rw [Nat.min_eq_left h6]
    refine ⟨by omega, by omega, ?_⟩
    unfold unitsR
    rw [if_neg (by omega)]
    have e5 : (L * 4503599627370496 + M) / 4503599627370496 - 1 = L := by omega
    have e6 : 4503599627370496 + (L * 4503599627370496 + M) % 4503599627370496 = M := by omega
    rw [e5, e6]

/-- What is not nought, and no less than the least one, is rounded to what is not nought. -/
theorem rungOf_pos (m : Nat) (p : Int) (h0 : m ≠ 0) (hp : -1074 ≤ p) : 0 < rungOf m p := by
  unfold rungOf
  by_cases h1 : max (p + m.log2 - 52) (-1074) ≤ p
  · have hd : (max (p + m.log2 - 52) (-1074) - p).toNat = 0 := by omega
    rw [hd, roundE_zero]
    have : 0 < m * 2 ^ (p - max (p + (m.log2 : Int) - 52) (-1074)).toNat := Nat.mul_pos (by omega) (Nat.two_pow_pos _)
    omega
  · have e0 : (p - max (p + (m.log2 : Int) - 52) (-1074)).toNat = 0 := by omega
    have e1 : (max (p + (m.log2 : Int) - 52) (-1074) - p).toNat ≤ m.log2 := by omega
    rw [e0, Nat.pow_zero, Nat.mul_one]
    generalize (max (p + (m.log2 : Int) - 52) (-1074) - p).toNat = d at *
    have h2 : 2 ^ d ≤ m := Nat.le_trans (Nat.pow_le_pow_right (by omega) e1) (Nat.log2_self_le h0)
    have h3 : 0 < m / 2 ^ d := Nat.div_pos h2 (Nat.two_pow_pos d)
    unfold roundE
    omega

theorem rungOf_le (m : Nat) (p : Int) : rungOf m p ≤ 9218868437227405312 := Nat.min_le_right _ _

/-! ### Words -/

theorem word_d (s : Bool) (r : Nat) : double.word s r = if s then 9223372036854775808 + r else r := rfl

theorem word_mag {r : Nat} (s : Bool) (h : r < 9223372036854775808) : double.word s r % 9223372036854775808 = r := by
  rw [word_d]; split <;> omega

theorem word_neg {r : Nat} (s : Bool) (h : r < 9223372036854775808) : negW (double.word s r) = s := by
  rw [word_d]; unfold negW
  cases s
  · simp; omega
  · simp; omega

theorem word_of {x : Nat} (h : x < 18446744073709551616) : double.word (negW x) (x % 9223372036854775808) = x := by
  rw [word_d]; unfold negW
  by_cases h1 : x < 9223372036854775808
  · have : (x / 9223372036854775808 % 2 == 1) = false := by simp; omega
    rw [this]; simp; omega
  · have : (x / 9223372036854775808 % 2 == 1) = true := by simp; omega
    rw [this]; simp; omega

theorem word_ne_nan (s : Bool) {r : Nat} (h : r ≤ 9218868437227405312) : nanN (double.word s r) = false := by
  unfold nanN magN
  rw [word_mag s (by omega)]
  exact decide_eq_false (by omega)

theorem clean_word (s : Bool) {r : Nat} (h : r ≤ 9218868437227405312) : cleanN (double.word s r) = double.word s r := by
  unfold cleanN; rw [word_ne_nan s h]; rfl

/-- A word's number in units of the least one; an infinity's is beyond all. -/
def valueW (x : Nat) : Int := if negW x then -(unitsR (x % 9223372036854775808) : Int) else (unitsR (x % 9223372036854775808) : Int)

theorem value_word (s : Bool) {r : Nat} (h : r < 9223372036854775808) : valueW (double.word s r) = if s then -(unitsR r : Int) else (unitsR r : Int) := by
  unfold valueW; rw [word_neg s h, word_mag s h]

theorem read_fin {x : Nat} (h : x % 9223372036854775808 < 9218868437227405312) : double.read x = .number (negW x) (magOf (x % 9223372036854775808)) (-1074 + (upOf (x % 9223372036854775808) : Int)) := by
  rw [read_eq, if_pos h]
theorem read_inf {x : Nat} (h : x % 9223372036854775808 = 9218868437227405312) : double.read x = .infinity (negW x) := by
  rw [read_eq, if_neg (by omega), if_pos h]
theorem read_nan {x : Nat} (h : nanN x = true) : double.read x = .nan (negW x) (x % 9223372036854775808 - 9218868437227405312) := by
  have := of_decide_eq_true h
  unfold magN at this
  rw [read_eq, if_neg (by omega), if_neg (by omega)]

theorem nan_cases (x : Nat) : nanN x = true ∨ x % 9223372036854775808 = 9218868437227405312 ∨ x % 9223372036854775808 < 9218868437227405312 := by
  unfold nanN magN
  by_cases h : 9218868437227405312 < x % 9223372036854775808
  · left; exact decide_eq_true h
  · right; omega

theorem not_nan {x : Nat} (h : nanN x = false) : x % 9223372036854775808 ≤ 9218868437227405312 := by
  have := of_decide_eq_false h
  unfold magN at this; omega

theorem signed_units (s : Bool) (m k : Nat) : signed s m k = if s then -((m * 2 ^ k : Nat) : Int) else ((m * 2 ^ k : Nat) : Int) := by
  unfold signed; rw [Nat.shiftLeft_eq]

theorem compare_scale (a b : Int) (k : Nat) : compare (a * 2 ^ k) (b * 2 ^ k) = compare a b := by
  have h : (0 : Int) < 2 ^ k := Int.pow_pos (by decide)
  show (if a * 2 ^ k < b * 2 ^ k then Ordering.lt else if a * 2 ^ k = b * 2 ^ k then Ordering.eq else Ordering.gt) = (if a < b then Ordering.lt else if a = b then Ordering.eq else Ordering.gt)
  have e1 : a * 2 ^ k < b * 2 ^ k ↔ a < b := ⟨fun q => Int.lt_of_mul_lt_mul_right q (Int.le_of_lt h), fun q => Int.mul_lt_mul_of_pos_right q h⟩
  have e2 : a * 2 ^ k = b * 2 ^ k ↔ a = b := ⟨fun q => Int.eq_of_mul_eq_mul_right (Int.ne_of_gt h) q, fun q => by rw [q]⟩
  simp only [e1, e2]

end Go.Proofs.Ytdpgpnjjonhdhaa.Fp
