/- The bits of a number, as the code asks them and sets them; plain. No condition but those written in each statement. -/
import Derived.Test.YtfcgkjbifnhjjaaInoC
namespace Go.Proofs.Ytfcgkjbifnhjjaa.St
open Go.RowKit
set_option linter.unusedVariables false

/-! ### Bits of a number -/
/-- A bit of a number. -/
def bitB (x : Int) (j : Nat) : Bool := (BitVec.ofInt 64 x).getLsbD j
theorem wrap_i64 (x : Int) : IntKind.i64.wrap x = wrap64 x := by unfold IntKind.wrap wrap64; simp [IntKind.bits, IntKind.signed]; split <;> omega
theorem ofInt_wrap (v : BitVec 64) : BitVec.ofInt 64 (IntKind.i64.wrap (v.toNat : Int)) = v := by
  rw [wrap_i64]
  apply BitVec.eq_of_toNat_eq
  rw [BitVec.toNat_ofInt]
  have := v.isLt
  unfold wrap64; omega
theorem ofInt_wrap64 (x : Int) : BitVec.ofInt 64 (wrap64 x) = BitVec.ofInt 64 x := by
  apply BitVec.eq_of_toNat_eq
  rw [BitVec.toNat_ofInt, BitVec.toNat_ofInt]
  unfold wrap64; omega
theorem ofInt_pow (j : Nat) : BitVec.ofInt 64 (2 ^ j) = BitVec.twoPow 64 j := by
  apply BitVec.eq_of_toNat_eq
  rw [show ((2 : Int) ^ j) = ((2 ^ j : Nat) : Int) by simp, BitVec.ofInt_natCast, BitVec.toNat_ofNat, BitVec.toNat_twoPow]
theorem bit_mark (x : Int) (i j : Nat) (hj : j < 64) : bitB (markI x i) j = (bitB x j || decide (i = j)) := by
  unfold bitB markI
  show (BitVec.ofInt 64 (IntKind.i64.wrap (((BitVec.ofInt 64 x) ||| (BitVec.ofInt 64 (wrap64 (2 ^ i)))).toNat : Int))).getLsbD j = _
  rw [ofInt_wrap, BitVec.getLsbD_or, ofInt_wrap64, ofInt_pow, BitVec.getLsbD_twoPow]
  by_cases e : i = j
  · subst e; simp [hj]
  · simp [e]
theorem div_bit (x : Int) (j : Nat) (hj : j < 64) : ((BitVec.ofInt 64 x).getLsbD j = true) ↔ (x / 2 ^ j) % 2 = 1 := by
  rw [← BitVec.testBit_toNat, BitVec.toNat_ofInt, Nat.testBit_eq_decide_div_mod_eq]
  have h2 : ((2 ^ 64 : Nat) : Int) = 2 ^ j * 2 ^ (64 - j) := by
    rw [← Int.pow_add, show j + (64 - j) = 64 by omega]; rfl
  have hp : (0 : Int) < 2 ^ j := Int.pow_pos (by decide)
  have hx : x = x % ((2 ^ 64 : Nat) : Int) + ((2 ^ 64 : Nat) : Int) * (x / ((2 ^ 64 : Nat) : Int)) := (Int.emod_add_mul_ediv x _).symm
  have hn : 0 ≤ x % ((2 ^ 64 : Nat) : Int) := Int.emod_nonneg _ (by decide)
  generalize hq : x / ((2 ^ 64 : Nat) : Int) = q at hx
  obtain ⟨r, hr⟩ := Int.eq_ofNat_of_zero_le hn
  rw [hr] at hx ⊢
  have e : x / 2 ^ j = (r : Int) / 2 ^ j + 2 ^ (64 - j) * q := by
    rw [hx, h2, Int.mul_assoc, Int.add_mul_ediv_left _ _ (by omega)]
  have e2 : (2 : Int) ^ (64 - j) = 2 * 2 ^ (63 - j) := by
    rw [show 64 - j = (63 - j) + 1 by omega, Int.pow_succ, Int.mul_comm]
  have e3 : ((r : Int) / 2 ^ j) = ((r / 2 ^ j : Nat) : Int) := by simp
  rw [e, e2, e3, Int.mul_assoc, Int.add_mul_emod_self_left, Int.toNat_natCast]
  simp; omega
theorem used_bit (x : Int) (j : Nat) (hj : j < 64) : usedI x j = bitB x j := by
  have h := div_bit x j hj
  have hb : usedI x j = true ↔ (x / 2 ^ j) % 2 = 1 := by
    unfold usedI
    show (IntKind.i64.wrap (((BitVec.ofInt 64 (x / 2 ^ j)) &&& (BitVec.ofInt 64 1)).toNat : Int) == 1) = true ↔ _
    have h1 : (BitVec.ofInt 64 1).toNat = 2 ^ 1 - 1 := by decide
    rw [BitVec.toNat_and, h1, Nat.and_two_pow_sub_one_eq_mod, BitVec.toNat_ofInt, wrap_i64, beq_iff_eq]
    generalize x / 2 ^ j = y
    unfold wrap64; omega
  unfold bitB
  rw [Bool.eq_iff_iff, h, hb]
theorem used_mark (x : Int) (i j : Nat) (hj : j < 64) : usedI (markI x i) j = (usedI x j || decide (i = j)) := by
  rw [used_bit _ _ hj, used_bit _ _ hj, bit_mark x i j hj]
theorem used_zero (j : Nat) (hj : j < 64) : usedI 0 j = false := by
  rw [used_bit _ _ hj]; unfold bitB; simp
/-- The least bit that isn't set. -/
theorem free_is (x : Int) (m : Nat) (hm : m + 1 < 16) (h1 : ∀ j, 1 ≤ j → j ≤ m → usedI x j = true) (h2 : usedI x (m + 1) = false) : freeN x 15 = m + 1 := by
  have key : ∀ k, k ≤ m → freeN x 15 = freeN x (16 - (k + 1)) := by
    intro k
    induction k with
    | zero => intro _; rfl
    | succ k ih =>
      intro hk
      rw [ih (by omega), freeN_past x (k + 1) (by omega) (h1 (k + 1) (by omega) hk)]
  rw [key m (Nat.le_refl _), freeN_hit x (m + 1) hm h2]
end Go.Proofs.Ytfcgkjbifnhjjaa.St
