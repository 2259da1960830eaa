/- Plain facts on halving a word: what it gives, that it falls, and in how many rounds it comes to nought. No program here; no condition but those written in each statement. -/
import Derived.Test.YtdpgpnjjonhdhaaFpOrd
namespace Go.Proofs.Ytdpgpnjjonhdhaa.Fp
open Ieee

def halfR (r : Nat) : Nat := if r < 9007199254740992 then roundE r 1 else r - 4503599627370496

theorem roundE_one (r : Nat) : roundE r 1 = r / 2 + (if r % 4 = 3 then 1 else 0) := by
  unfold roundE
  rw [Nat.pow_one]
  congr 1
  by_cases h : r % 4 = 3
  · rw [if_pos h, if_pos]; right; omega
  · rw [if_neg h, if_neg]; omega

theorem halfR_zero : halfR 0 = 0 := by decide
theorem halfR_lt {r : Nat} (h : 0 < r) : halfR r < r := by
  unfold halfR; split
  · rw [roundE_one]; split <;> omega
  · omega
theorem halfR_zero_of {r : Nat} (h : halfR r = 0) : r ≤ 1 := by
  unfold halfR at h
  split at h
  · rw [roundE_one] at h; split at h <;> omega
  · omega

theorem half_rung (r : Nat) (h : r < 9218868437227405312) (h0 : r ≠ 0) : rungOf (magOf r * 4503599627370496) ((-1074 + (upOf r : Int)) + -53) = halfR r := by
  have e := rungOf_scale (magOf r) 52 ((-1074 + (upOf r : Int)) + -53) (magOf_ne (by omega))
  rw [pow52] at e
  rw [e]
  by_cases h2 : r < 9007199254740992
  · have e1 : upOf r = 0 := by unfold upOf; omega
    have e2 : magOf r = r := by unfold magOf; split <;> omega
    rw [e1, e2]
    unfold halfR rungOf
    rw [if_pos h2]
    have hl : r.log2 ≤ 52 := log2_le_of_lt (by rw [pow53]; exact h2)
    have e3 : max (-1074 + ((0 : Nat) : Int) + -53 + ((52 : Nat) : Int) + (r.log2 : Int) - 52) (-1074) = -1074 := by omega
    rw [e3]
    have e4 : ((-1074 : Int) + 1074).toNat = 0 := by decide
    have e5 : (-1074 + ((0 : Nat) : Int) + -53 + ((52 : Nat) : Int) - -1074).toNat = 0 := by decide
    have e6 : (-1074 - (-1074 + ((0 : Nat) : Int) + -53 + ((52 : Nat) : Int))).toNat = 1 := by decide
    rw [e4, e5, e6, Nat.pow_zero, Nat.mul_one, Nat.zero_mul, Nat.zero_add]
    refine Nat.min_eq_left ?_
    rw [roundE_one]; split <;> omega
  · have e1 : upOf r = upOf (r - 4503599627370496) + 1 := by unfold upOf; omega
    have e2 : magOf r = magOf (r - 4503599627370496) := by unfold magOf; rw [if_neg (by omega), if_neg (by omega)]; omega
    unfold halfR
    rw [if_neg h2, e1, e2]
    have e3 : -1074 + ((upOf (r - 4503599627370496) + 1 : Nat) : Int) + -53 + ((52 : Nat) : Int) = -1074 + (upOf (r - 4503599627370496) : Int) := by omega
    rw [e3]
    exact rungOf_canon _ (by omega)

theorem half_word (s : Bool) (r : Nat) (h : r < 9218868437227405312) : opN 3 (double.word s r) 4602678819172646912 = double.word s (halfR r) := by
  show arithN .mul (double.word s r) 4602678819172646912 = _
  have hm : double.word s r % 9223372036854775808 = r := word_mag s (by omega)
  have hn : negW (double.word s r) = s := word_neg s (by omega)
  have k1 : (4602678819172646912 : Nat) % 9223372036854775808 = 4602678819172646912 := by decide
  have k2 : negW 4602678819172646912 = false := by decide
  have k3 : magOf 4602678819172646912 = 4503599627370496 := by decide
  have k4 : upOf 4602678819172646912 = 1021 := by decide
  have e : floatBits .mul .f64 (double.word s r) 4602678819172646912 = _ := mul_fin (by rw [hm]; exact h) (by rw [k1]; decide)
  rw [hm, hn, k1, k2, k3, k4] at e
  have e7 : -1074 + (upOf r : Int) + (-1074 + ((1021 : Nat) : Int)) = -1074 + (upOf r : Int) + -53 := by omega
  rw [e7, Bool.xor_false] at e
  rw [arith_some e, nearest_clean]
  by_cases h0 : r = 0
  · subst h0
    rw [magOf_z, Nat.zero_mul, nearest_zero, halfR_zero]
  · have := magOf_ne (r := r) (by omega)
    rw [nearest_eq _ _ _ (Nat.mul_ne_zero this (by decide)), half_rung r h h0]

/-- In n rounds or fewer it comes to nought. -/
def Rem (r n : Nat) : Prop := r = 0 ∨ (r ≤ 9007199254740992 ∧ ∃ k, r ≤ 2 ^ k ∧ k + 1 ≤ n) ∨ (9007199254740992 ≤ r ∧ r / 4503599627370496 + 53 ≤ n)

theorem rem_start (r : Nat) (h : r < 9218868437227405312) : Rem r 2099 := by
  by_cases h1 : r < 9007199254740992
  · exact Or.inr (Or.inl ⟨by omega, 53, by rw [pow53]; omega, by omega⟩)
  · exact Or.inr (Or.inr ⟨by omega, by omega⟩)

theorem rem_step {r n : Nat} (h0 : 0 < r) (h : Rem r n) : 0 < n ∧ Rem (halfR r) (n - 1) := by
  rcases h with h | ⟨h1, k, h2, h3⟩ | ⟨h1, h2⟩
  · omega
  · refine ⟨by omega, ?_⟩
    by_cases hk : k = 0
    · subst hk
      have : r = 1 := by rw [Nat.pow_zero] at h2; omega
      subst this
      exact Or.inl (by decide)
    · obtain ⟨j, rfl⟩ : ∃ j, k = j + 1 := ⟨k - 1, by omega⟩
      rw [Nat.pow_succ] at h2
      have h4 : halfR r ≤ 2 ^ j := by
        unfold halfR
        split
        · rw [roundE_one]
          generalize 2 ^ j = q at *
          split <;> omega
        · have : r = 9007199254740992 := by omega
          subst this
          generalize 2 ^ j = q at *
          omega
      refine Or.inr (Or.inl ⟨?_, j, h4, by omega⟩)
      have := halfR_lt h0
      omega
  · refine ⟨by omega, ?_⟩
    have e : halfR r = r - 4503599627370496 := by unfold halfR; rw [if_neg (by omega)]
    rw [e]
    by_cases h3 : r - 4503599627370496 < 9007199254740992
    · exact Or.inr (Or.inl ⟨by omega, 53, by rw [pow53]; omega, by omega⟩)
    · exact Or.inr (Or.inr ⟨by omega, by omega⟩)

theorem half_le {r : Nat} : halfR r ≤ r := by
  by_cases h : r = 0
  · subst h; decide
  · exact Nat.le_of_lt (halfR_lt (by omega))

end Go.Proofs.Ytdpgpnjjonhdhaa.Fp
