/- Plain facts: what comes of sums, products and quotients of words by their classes (NaN, infinite, zero, another), and their signs. No program here; no condition but those written in each statement. -/
import Derived.Test.YtdpgpnjjonhdhaaIeeeC
namespace Go.Proofs.Ytdpgpnjjonhdhaa.Fp
open Ieee

/-! ### Kinds -/
theorem kind_of_nan {x : Nat} (h : nanN x = true) : kindN x = 1 := by
  have := of_decide_eq_true h
  unfold kindN kindI
  rw [if_pos (by omega)]
theorem kind_of_inf {x : Nat} (h : x % 9223372036854775808 = 9218868437227405312) : kindN x = 2 := by
  unfold kindN kindI magN
  rw [h]; decide
theorem kind_of_zero {x : Nat} (h : x % 9223372036854775808 = 0) : kindN x = 3 := by
  unfold kindN kindI magN
  rw [h]; decide
theorem kind_of_fin {x : Nat} (h0 : 0 < x % 9223372036854775808) (h : x % 9223372036854775808 < 9218868437227405312) : kindN x = 4 ∨ kindN x = 5 := by
  unfold kindN kindI magN
  generalize x % 9223372036854775808 = u at *
  rw [if_neg (by omega), if_neg (by omega), if_neg (by omega)]
  split
  · exact Or.inl rfl
  · exact Or.inr rfl

theorem nan_of_inf {x : Nat} (h : x % 9223372036854775808 = 9218868437227405312) : nanN x = false := by
  unfold nanN magN; rw [h]; decide
theorem nan_of_fin {x : Nat} (h : x % 9223372036854775808 < 9218868437227405312) : nanN x = false := by
  unfold nanN magN; exact decide_eq_false (by omega)

/-- The four classes of a word. -/
theorem classes (x : Nat) : nanN x = true ∨ x % 9223372036854775808 = 9218868437227405312 ∨ x % 9223372036854775808 = 0 ∨ (0 < x % 9223372036854775808 ∧ x % 9223372036854775808 < 9218868437227405312) := by
  rcases nan_cases x with h | h | h
  · exact Or.inl h
  · exact Or.inr (Or.inl h)
  · by_cases e : x % 9223372036854775808 = 0
    · exact Or.inr (Or.inr (Or.inl e))
    · exact Or.inr (Or.inr (Or.inr ⟨by omega, h⟩))

/-! ### What a NaN makes -/
theorem arith_nan_left (op : BinOp) (hop : op = .add ∨ op = .sub ∨ op = .mul ∨ op = .quo) {x y : Nat} (h : nanN x = true) : arithN op x y = nanWord := by
  unfold arithN
  have e : floatBits op .f64 x y = none := by
    rcases hop with rfl | rfl | rfl | rfl
    · show double.add x y = none; unfold Format.add; rw [read_nan h]; rfl
    · show double.sub x y = none; unfold Format.sub; rw [read_nan h]; rfl
    · show double.mul x y = none; unfold Format.mul; rw [read_nan h]; rfl
    · show double.div x y = none; unfold Format.div; rw [read_nan h]; rfl
  rw [e]

theorem arith_nan_right (op : BinOp) (hop : op = .add ∨ op = .sub ∨ op = .mul ∨ op = .quo) {x y : Nat} (h : nanN y = true) : arithN op x y = nanWord := by
  unfold arithN
  have e : floatBits op .f64 x y = none := by
    rcases hop with rfl | rfl | rfl | rfl
    · show double.add x y = none; unfold Format.add; rw [read_nan h]; cases double.read x <;> rfl
    · show double.sub x y = none; unfold Format.sub; rw [read_nan h]; cases double.read x <;> rfl
    · show double.mul x y = none; unfold Format.mul; rw [read_nan h]; cases double.read x <;> rfl
    · show double.div x y = none; unfold Format.div; rw [read_nan h]; cases double.read x <;> rfl
  rw [e]

/-! ### Products -/
theorem arith_some {op : BinOp} {x y r : Nat} (h : floatBits op .f64 x y = some r) : arithN op x y = cleanN r := by unfold arithN; rw [h]
theorem arith_none {op : BinOp} {x y : Nat} (h : floatBits op .f64 x y = none) : arithN op x y = nanWord := by unfold arithN; rw [h]

theorem write_inf (s : Bool) : double.write (.infinity s) = double.word s 9218868437227405312 := by
  show double.word s double.infRung = _
  rw [infRung_d]

theorem magOf_ne {r : Nat} (h : 0 < r) : magOf r ≠ 0 := by have := magOf_pos h; omega
theorem magOf_z : magOf 0 = 0 := rfl

theorem mul_inf_zero {x y : Nat} (hx : x % 9223372036854775808 = 9218868437227405312) (hy : y % 9223372036854775808 = 0) : arithN .mul x y = nanWord := by
  apply arith_none
  show double.mul x y = none
  unfold Format.mul
  rw [read_inf hx, read_fin (by omega), hy]; rfl
theorem mul_zero_inf {x y : Nat} (hx : x % 9223372036854775808 = 0) (hy : y % 9223372036854775808 = 9218868437227405312) : arithN .mul x y = nanWord := by
  apply arith_none
  show double.mul x y = none
  unfold Format.mul
  rw [read_inf hy, read_fin (by omega), hx]; rfl

theorem mul_inf_left {x y : Nat} (hx : x % 9223372036854775808 = 9218868437227405312) (hy : nanN y = false) (hz : y % 9223372036854775808 ≠ 0) : arithN .mul x y = double.word (negW x ^^ negW y) 9218868437227405312 := by
  have e : floatBits .mul .f64 x y = some (double.word (negW x ^^ negW y) 9218868437227405312) := by
    show double.mul x y = _
    unfold Format.mul
    rw [read_inf hx]
    have := not_nan hy
    by_cases h : y % 9223372036854775808 = 9218868437227405312
    · rw [read_inf h]; exact congrArg some (write_inf _)
    · rw [read_fin (by omega)]
      show Option.map _ (if _ = 0 then _ else _) = _
      rw [if_neg (magOf_ne (by omega))]; exact congrArg some (write_inf _)
  rw [arith_some e, clean_word _ (by omega)]
theorem mul_inf_right {x y : Nat} (hy : y % 9223372036854775808 = 9218868437227405312) (hx : nanN x = false) (hz : x % 9223372036854775808 ≠ 0) : arithN .mul x y = double.word (negW x ^^ negW y) 9218868437227405312 := by
  have e : floatBits .mul .f64 x y = some (double.word (negW x ^^ negW y) 9218868437227405312) := by
    show double.mul x y = _
    unfold Format.mul
    rw [read_inf hy]
    have := not_nan hx
    by_cases h : x % 9223372036854775808 = 9218868437227405312
    · rw [read_inf h]; exact congrArg some (write_inf _)
    · rw [read_fin (by omega)]
      show Option.map _ (if _ = 0 then _ else _) = _
      rw [if_neg (magOf_ne (by omega)), Bool.xor_comm]; exact congrArg some (write_inf _)
  rw [arith_some e, clean_word _ (by omega)]
theorem mul_fin_word {x y : Nat} (hx : x % 9223372036854775808 < 9218868437227405312) (hy : y % 9223372036854775808 < 9218868437227405312) :
    ∃ r, r ≤ 9218868437227405312 ∧ arithN .mul x y = double.word (negW x ^^ negW y) r := by
  have e : floatBits .mul .f64 x y = _ := mul_fin hx hy
  obtain ⟨r, h1, h2⟩ := nearest_word (negW x ^^ negW y) (magOf (x % 9223372036854775808) * magOf (y % 9223372036854775808)) ((-1074 + (upOf (x % 9223372036854775808) : Int)) + (-1074 + (upOf (y % 9223372036854775808) : Int)))
  rw [h2] at e
  exact ⟨r, h1, by rw [arith_some e, clean_word _ h1]⟩

/-! ### Quotients -/
theorem quotient_fin (d : Nat) (s t : Bool) (m n : Nat) (i j : Int) (hn : n ≠ 0) : (Datum.number s m i).quotient d (Datum.number t n j) =
    some (Datum.number (s ^^ t) (2 * ((m <<< (d + n.log2 - m.log2)) / n) + ((m <<< (d + n.log2 - m.log2)) % n != 0).toNat) (i - j - ((d + n.log2 - m.log2 : Nat) : Int) - 1)) := by
  unfold Datum.quotient
  dsimp only
  rw [if_neg hn]
theorem quotient_zero (d : Nat) (s t : Bool) (m : Nat) (i j : Int) (hm : m ≠ 0) : (Datum.number s m i).quotient d (Datum.number t 0 j) = some (Datum.infinity (s ^^ t)) := by
  unfold Datum.quotient
  dsimp only
  rw [if_pos rfl, if_neg hm]
theorem div_inf_inf {x y : Nat} (hx : x % 9223372036854775808 = 9218868437227405312) (hy : y % 9223372036854775808 = 9218868437227405312) : arithN .quo x y = nanWord := by
  apply arith_none
  show double.div x y = none
  unfold Format.div
  rw [read_inf hx, read_inf hy]; rfl
theorem div_zero_zero {x y : Nat} (hx : x % 9223372036854775808 = 0) (hy : y % 9223372036854775808 = 0) : arithN .quo x y = nanWord := by
  apply arith_none
  show double.div x y = none
  unfold Format.div
  rw [read_fin (by omega), read_fin (by omega), hx, hy]; rfl
theorem div_inf_fin {x y : Nat} (hx : x % 9223372036854775808 = 9218868437227405312) (hy : y % 9223372036854775808 < 9218868437227405312) : arithN .quo x y = double.word (negW x ^^ negW y) 9218868437227405312 := by
  have e : floatBits .quo .f64 x y = some (double.word (negW x ^^ negW y) 9218868437227405312) := by
    show double.div x y = _
    unfold Format.div
    rw [read_inf hx, read_fin hy]; exact congrArg some (write_inf _)
  rw [arith_some e, clean_word _ (by omega)]
theorem div_fin_inf {x y : Nat} (hx : x % 9223372036854775808 < 9218868437227405312) (hy : y % 9223372036854775808 = 9218868437227405312) : arithN .quo x y = double.word (negW x ^^ negW y) 0 := by
  have e : floatBits .quo .f64 x y = some (double.word (negW x ^^ negW y) 0) := by
    show double.div x y = _
    unfold Format.div
    rw [read_inf hy, read_fin hx]; exact congrArg some (nearest_zero _ _)
  rw [arith_some e, clean_word _ (by omega)]
theorem div_by_zero {x y : Nat} (h0 : 0 < x % 9223372036854775808) (hx : x % 9223372036854775808 < 9218868437227405312) (hy : y % 9223372036854775808 = 0) : arithN .quo x y = double.word (negW x ^^ negW y) 9218868437227405312 := by
  have e : floatBits .quo .f64 x y = some (double.word (negW x ^^ negW y) 9218868437227405312) := by
    show double.div x y = _
    unfold Format.div
    rw [read_fin hx, read_fin (by omega), hy, magOf_z, quotient_zero _ _ _ _ _ _ (magOf_ne h0)]
    exact congrArg some (write_inf _)
  rw [arith_some e, clean_word _ (by omega)]
theorem div_fin_word {x y : Nat} (hx : x % 9223372036854775808 < 9218868437227405312) (h0 : 0 < y % 9223372036854775808) (hy : y % 9223372036854775808 < 9218868437227405312) :
    ∃ r, r ≤ 9218868437227405312 ∧ arithN .quo x y = double.word (negW x ^^ negW y) r := by
  have e : ∃ m p, floatBits .quo .f64 x y = some (double.nearest (negW x ^^ negW y) m p) := by
    show ∃ m p, double.div x y = _
    unfold Format.div
    rw [read_fin hx, read_fin hy, quotient_fin _ _ _ _ _ _ _ (magOf_ne h0)]
    exact ⟨_, _, rfl⟩
  obtain ⟨m, p, e⟩ := e
  obtain ⟨r, h1, h2⟩ := nearest_word (negW x ^^ negW y) m p
  rw [h2] at e
  exact ⟨r, h1, by rw [arith_some e, clean_word _ h1]⟩

/-! ### Less itself; with its opposite -/
theorem sub_inf_self {x : Nat} (hx : x % 9223372036854775808 = 9218868437227405312) : arithN .sub x x = nanWord := by
  apply arith_none
  show double.sub x x = none
  unfold Format.sub
  rw [read_inf hx]
  cases negW x <;> rfl
theorem sub_fin_self {x : Nat} (hx : x % 9223372036854775808 < 9218868437227405312) : arithN .sub x x = 0 := by
  have e : floatBits .sub .f64 x x = _ := sub_fin hx hx
  rw [arith_some e, wordV_clean]
  have : valueW x - valueW x = 0 := by omega
  rw [this]
  cases negW x <;> rfl

/-- The word of the other sign. -/
def flipW (x : Nat) : Nat := x ^^^ 9223372036854775808

theorem and_sign (x : Nat) : x &&& 9223372036854775808 = if negW x then 9223372036854775808 else 0 := by
  have e : (9223372036854775808 : Nat) = 2 ^ 63 := by decide
  have := nat_bit 63 x
  rw [← e] at this
  rw [this]
  unfold negW
  rcases Nat.mod_two_eq_zero_or_one (x / 9223372036854775808) with h | h <;> rw [h] <;> rfl

theorem negW_testBit (x : Nat) : negW x = x.testBit 63 := by
  unfold negW
  rw [Nat.testBit_eq_decide_div_mod_eq]
  have e : (9223372036854775808 : Nat) = 2 ^ 63 := by decide
  rw [e]; rfl

theorem neg_xor (a b : Nat) : negW (a ^^^ b) = (negW a ^^ negW b) := by
  rw [negW_testBit, negW_testBit, negW_testBit, Nat.testBit_xor]

theorem flip_neg (x : Nat) : negW (flipW x) = !negW x := by
  unfold flipW
  rw [neg_xor]
  have : negW 9223372036854775808 = true := by decide
  rw [this]; cases negW x <;> rfl

theorem flip_mag (x : Nat) : flipW x % 9223372036854775808 = x % 9223372036854775808 := by
  unfold flipW
  have e : (9223372036854775808 : Nat) = 2 ^ 63 := by decide
  conv => lhs; rw [e]
  rw [Nat.xor_mod_two_pow, Nat.mod_self, Nat.xor_zero]

theorem flip_lt {x : Nat} (h : x < 18446744073709551616) : flipW x < 18446744073709551616 := by
  have : x ^^^ 9223372036854775808 < 2 ^ 64 := Nat.xor_lt_two_pow (by omega) (by omega)
  unfold flipW; omega

theorem flip_value (x : Nat) : valueW (flipW x) = -valueW x := by
  unfold valueW
  rw [flip_neg, flip_mag]
  cases negW x <;> simp

theorem add_flip {x : Nat} (hx : x % 9223372036854775808 < 9218868437227405312) : arithN .add x (flipW x) = 0 := by
  have e : floatBits .add .f64 x (flipW x) = _ := add_fin hx (by rw [flip_mag]; exact hx)
  rw [arith_some e, wordV_clean, flip_value, flip_neg]
  have : valueW x + -valueW x = 0 := by omega
  rw [this]
  cases negW x <;> rfl

/-! ### Signs as bits -/
def signW (s : Bool) : Nat := if s then 9223372036854775808 else 0

theorem sign_of_word (s : Bool) {r : Nat} (h : r ≤ 9218868437227405312) : double.word s r &&& 9223372036854775808 = signW s := by
  rw [and_sign, word_neg s (by omega)]; rfl

theorem sign_of_xor (a b : Nat) : (a ^^^ b) &&& 9223372036854775808 = signW (negW a ^^ negW b) := by
  rw [and_sign, neg_xor]; rfl

theorem sign_or_inf (s : Bool) : signW s ||| 9218868437227405312 = double.word s 9218868437227405312 := by
  cases s <;> decide

theorem word_zero (s : Bool) : double.word s 0 = signW s := by cases s <;> rfl

theorem word_ne (s : Bool) {r : Nat} (h : r ≤ 9218868437227405312) : double.word s r ≠ 9221120237041090560 := by
  intro e
  have := word_mag s (show r < 9223372036854775808 by omega)
  rw [e] at this; omega

theorem word_lt (s : Bool) {r : Nat} (h : r ≤ 9218868437227405312) : double.word s r < 18446744073709551616 := by
  rw [word_d]; split <;> omega

end Go.Proofs.Ytdpgpnjjonhdhaa.Fp
