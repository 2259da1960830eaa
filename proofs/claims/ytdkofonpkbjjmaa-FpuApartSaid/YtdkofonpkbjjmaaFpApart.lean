/- FpuApart returns true for any two words below 2^64. No other condition. -/
import Derived.Test.YtdkofonpkbjjmaaFpRuns
import Derived.Test.YtdkofonpkbjjmaaFpOrd
namespace Go.Proofs.Ytdkofonpkbjjmaa.Fp
open Go.RowKit
set_option linter.unusedVariables false
theorem cmp_zero (d : Nat) (hd : d < 18446744073709551616) (w : World) :
    Calls Try.prog 13 #[.int .u64 (d : Int), .int .u64 0] w fun e w' => e = .returned (.int .i64 (cmpN d 0)) ∧ w = w' :=
  cmp_any d 0 hd (by decide) w

theorem kne2 {x : Nat} (h : x % 9223372036854775808 < 9218868437227405312) : (kindN x == 1) = false ∧ (kindN x == 2) = false := by
  by_cases h0 : x % 9223372036854775808 = 0
  · rw [kind_of_zero h0]; decide
  · rcases kind_of_fin (by omega) h with k | k <;> rw [k] <;> decide

theorem sum_comm (d e : Ieee.Datum) : d.sum e = e.sum d := by
  cases d with
  | nan s f => cases e <;> rfl
  | infinity s =>
    cases e with
    | nan t f => rfl
    | infinity t =>
      unfold Ieee.Datum.sum
      by_cases h : s = t
      · subst h; rfl
      · have h2 : ¬ t = s := fun q => h q.symm
        simp [h, h2]
    | number t n j => rfl
  | number s m i =>
    cases e with
    | nan t f => rfl
    | infinity t => rfl
    | number t n j =>
      unfold Ieee.Datum.sum
      dsimp only
      rw [Int.min_comm j i, Int.add_comm (Ieee.signed t n _) (Ieee.signed s m _), Bool.and_comm t s]

theorem product_comm (d e : Ieee.Datum) : d.product e = e.product d := by
  cases d with
  | nan s f => cases e <;> rfl
  | infinity s =>
    cases e with
    | nan t f => rfl
    | infinity t => show some (Ieee.Datum.infinity (s ^^ t)) = some (Ieee.Datum.infinity (t ^^ s)); rw [Bool.xor_comm]
    | number t n j => rfl
  | number s m i =>
    cases e with
    | nan t f => rfl
    | infinity t => rfl
    | number t n j => show some (Ieee.Datum.number (s ^^ t) (m * n) (i + j)) = some (Ieee.Datum.number (t ^^ s) (n * m) (j + i)); rw [Bool.xor_comm, Nat.mul_comm, Int.add_comm]

theorem add_comm_w (a b : Nat) : opN 1 b a = opN 1 a b := by
  show arithN .add b a = arithN .add a b
  have e : floatBits .add .f64 b a = floatBits .add .f64 a b := by
    show Ieee.double.add b a = Ieee.double.add a b
    unfold Ieee.Format.add
    rw [sum_comm]
  unfold arithN; rw [e]
theorem mul_comm_w (a b : Nat) : opN 3 b a = opN 3 a b := by
  show arithN .mul b a = arithN .mul a b
  have e : floatBits .mul .f64 b a = floatBits .mul .f64 a b := by
    show Ieee.double.mul b a = Ieee.double.mul a b
    unfold Ieee.Format.mul
    rw [product_comm]
  unfold arithN; rw [e]

/-- A number's word stands to nought as the number does. -/
theorem wordV_cmp (z : Bool) (v : Int) : cmpN (wordV z v) 0 = cmpI v 0 := by
  have h0 : nanN 0 = false := by decide
  have v0 : valueW 0 = 0 := value_of_zero (by decide)
  have hn : nanN (wordV z v) = false := by
    unfold wordV; split
    · exact word_ne_nan _ (by omega)
    · exact word_ne_nan _ (rungOf_le _ _)
  rw [cmp_val hn h0, v0]
  unfold wordV
  by_cases h : v = 0
  · rw [if_pos h, value_word _ (by omega), units_zero, h]
    cases z
    · rfl
    · rfl
  · have hl := rungOf_le v.natAbs (-1074)
    rw [if_neg h, value_word _ (by omega)]
    have hp := rungOf_pos v.natAbs (-1074) (by omega) (by omega)
    have hu := units_lt hp
    rw [units_zero] at hu
    by_cases hv : v < 0
    · have : decide (v < 0) = true := decide_eq_true hv
      rw [this, if_pos rfl]
      unfold cmpI
      rw [if_pos (by omega), if_pos hv]
    · have : decide (v < 0) = false := decide_eq_false hv
      rw [this]
      unfold cmpI
      rw [if_neg (by simp), if_pos (by simp; omega), if_neg hv, if_pos (by omega)]

theorem sub_cmp {a b : Nat} (ha : a % 9223372036854775808 < 9218868437227405312) (hb : b % 9223372036854775808 < 9218868437227405312) : cmpN (opN 2 a b) 0 = cmpN a b := by
  have e : floatBits .sub .f64 a b = _ := sub_fin ha hb
  have e2 : opN 2 a b = wordV (negW a && !negW b) (valueW a - valueW b) := by
    show arithN .sub a b = _
    rw [arith_some e, wordV_clean]
  rw [e2, wordV_cmp, cmp_val (nan_of_fin ha) (nan_of_fin hb)]
  unfold cmpI
  rcases Int.lt_trichotomy (valueW a) (valueW b) with h | h | h
  · rw [if_pos (by omega), if_pos h]
  · rw [if_neg (by omega), if_neg (by omega), if_neg (by omega), if_neg (by omega)]
  · rw [if_neg (by omega), if_pos (by omega), if_neg (by omega), if_pos h]

attribute [local irreducible] Int.lt Int.le cleanN opN kindN orderN cmpN

theorem apart_N (a b S P : Nat) (ha : a < 18446744073709551616) (hb : b < 18446744073709551616)
    (s1 : opN 1 a b = S) (s2 : opN 1 b a = S) (p1 : opN 3 a b = P) (p2 : opN 3 b a = P) (h1 : kindN a = 1) (w : World) :
    Calls Try.prog 8 #[.int .u64 (a : Int), .int .u64 (b : Int)] w fun e w' => e = .returned (.bool true) ∧ ∃ n, w.drewN n = w' := by
  go_enter Try.func8, Try.ntmps8
  go_wp2_with (first | (go_at_call 15; refine (kind_any _ (by assumption) _).mono ?_; rintro e w' ⟨rfl, rfl⟩) | (go_at_call 16; refine (clean_any _ (by assumption) _).mono ?_; rintro e w' ⟨rfl, rfl⟩) | (go_at_call 13; refine (cmp_any _ _ (by assumption) (by assumption) _).mono ?_; rintro e w' ⟨rfl, rfl⟩) | (go_at_call 12; refine (op_any _ _ _ (by assumption) (by assumption) _).mono ?_; rintro e w' ⟨rfl, n, rfl⟩) | (go_at_call 3; refine (runs_any _).mono ?_; rintro e w' ⟨rfl, n, rfl⟩))
  go_ret
  exact ⟨rfl, _, rfl⟩

theorem apart_oN (a b S P : Nat) (ha : a < 18446744073709551616) (hb : b < 18446744073709551616)
    (s1 : opN 1 a b = S) (s2 : opN 1 b a = S) (p1 : opN 3 a b = P) (p2 : opN 3 b a = P) (h1 : (kindN a == 1) = false) (h2 : kindN b = 1) (w : World) :
    Calls Try.prog 8 #[.int .u64 (a : Int), .int .u64 (b : Int)] w fun e w' => e = .returned (.bool true) ∧ ∃ n, w.drewN n = w' := by
  go_enter Try.func8, Try.ntmps8
  go_wp2_with (first | (go_at_call 15; refine (kind_any _ (by assumption) _).mono ?_; rintro e w' ⟨rfl, rfl⟩) | (go_at_call 16; refine (clean_any _ (by assumption) _).mono ?_; rintro e w' ⟨rfl, rfl⟩) | (go_at_call 13; refine (cmp_any _ _ (by assumption) (by assumption) _).mono ?_; rintro e w' ⟨rfl, rfl⟩) | (go_at_call 12; refine (op_any _ _ _ (by assumption) (by assumption) _).mono ?_; rintro e w' ⟨rfl, n, rfl⟩) | (go_at_call 3; refine (runs_any _).mono ?_; rintro e w' ⟨rfl, n, rfl⟩))
  go_ret
  exact ⟨rfl, _, rfl⟩

theorem apart_I (a b S P : Nat) (ha : a < 18446744073709551616) (hb : b < 18446744073709551616)
    (s1 : opN 1 a b = S) (s2 : opN 1 b a = S) (p1 : opN 3 a b = P) (p2 : opN 3 b a = P) (h1 : kindN a = 2) (h2 : (kindN b == 1) = false) (w : World) :
    Calls Try.prog 8 #[.int .u64 (a : Int), .int .u64 (b : Int)] w fun e w' => e = .returned (.bool true) ∧ ∃ n, w.drewN n = w' := by
  go_enter Try.func8, Try.ntmps8
  go_wp2_with (first | (go_at_call 15; refine (kind_any _ (by assumption) _).mono ?_; rintro e w' ⟨rfl, rfl⟩) | (go_at_call 16; refine (clean_any _ (by assumption) _).mono ?_; rintro e w' ⟨rfl, rfl⟩) | (go_at_call 13; refine (cmp_any _ _ (by assumption) (by assumption) _).mono ?_; rintro e w' ⟨rfl, rfl⟩) | (go_at_call 12; refine (op_any _ _ _ (by assumption) (by assumption) _).mono ?_; rintro e w' ⟨rfl, n, rfl⟩) | (go_at_call 3; refine (runs_any _).mono ?_; rintro e w' ⟨rfl, n, rfl⟩))
  go_ret
  exact ⟨rfl, _, rfl⟩

theorem apart_fI (a b S P : Nat) (ha : a < 18446744073709551616) (hb : b < 18446744073709551616)
    (s1 : opN 1 a b = S) (s2 : opN 1 b a = S) (p1 : opN 3 a b = P) (p2 : opN 3 b a = P) (h1 : (kindN a == 1) = false) (h2 : (kindN a == 2) = false) (h3 : kindN b = 2) (w : World) :
    Calls Try.prog 8 #[.int .u64 (a : Int), .int .u64 (b : Int)] w fun e w' => e = .returned (.bool true) ∧ ∃ n, w.drewN n = w' := by
  go_enter Try.func8, Try.ntmps8
  go_wp2_with (first | (go_at_call 15; refine (kind_any _ (by assumption) _).mono ?_; rintro e w' ⟨rfl, rfl⟩) | (go_at_call 16; refine (clean_any _ (by assumption) _).mono ?_; rintro e w' ⟨rfl, rfl⟩) | (go_at_call 13; refine (cmp_any _ _ (by assumption) (by assumption) _).mono ?_; rintro e w' ⟨rfl, rfl⟩) | (go_at_call 12; refine (op_any _ _ _ (by assumption) (by assumption) _).mono ?_; rintro e w' ⟨rfl, n, rfl⟩) | (go_at_call 3; refine (runs_any _).mono ?_; rintro e w' ⟨rfl, n, rfl⟩))
  go_ret
  exact ⟨rfl, _, rfl⟩

theorem apart_ff (a b S P D : Nat) (C : Int) (ha : a < 18446744073709551616) (hb : b < 18446744073709551616)
    (s1 : opN 1 a b = S) (s2 : opN 1 b a = S) (p1 : opN 3 a b = P) (p2 : opN 3 b a = P) (h1 : (kindN a == 1) = false) (h2 : (kindN a == 2) = false) (h3 : (kindN b == 1) = false) (h4 : (kindN b == 2) = false) (hd : opN 2 a b = D) (hD : D < 18446744073709551616) (hc1 : cmpN D 0 = C) (hc2 : cmpN a b = C) (w : World) :
    Calls Try.prog 8 #[.int .u64 (a : Int), .int .u64 (b : Int)] w fun e w' => e = .returned (.bool true) ∧ ∃ n, w.drewN n = w' := by
  go_enter Try.func8, Try.ntmps8
  go_wp2_with (first | (go_at_call 15; refine (kind_any _ (by assumption) _).mono ?_; rintro e w' ⟨rfl, rfl⟩) | (go_at_call 16; refine (clean_any _ (by assumption) _).mono ?_; rintro e w' ⟨rfl, rfl⟩) | (go_at_call 12; refine (op_any _ _ _ (by assumption) (by assumption) _).mono ?_; rintro e w' ⟨rfl, n, rfl⟩) | (go_at_call 3; refine (runs_any _).mono ?_; rintro e w' ⟨rfl, n, rfl⟩))
  refine (cmp_zero _ (by assumption) _).mono ?_; rintro e w' ⟨rfl, rfl⟩
  go_wp2_with (first | (go_at_call 15; refine (kind_any _ (by assumption) _).mono ?_; rintro e w' ⟨rfl, rfl⟩) | (go_at_call 16; refine (clean_any _ (by assumption) _).mono ?_; rintro e w' ⟨rfl, rfl⟩) | (go_at_call 13; refine (cmp_any _ _ (by assumption) (by assumption) _).mono ?_; rintro e w' ⟨rfl, rfl⟩) | (go_at_call 12; refine (op_any _ _ _ (by assumption) (by assumption) _).mono ?_; rintro e w' ⟨rfl, n, rfl⟩) | (go_at_call 3; refine (runs_any _).mono ?_; rintro e w' ⟨rfl, n, rfl⟩))
  go_ret
  exact ⟨rfl, _, rfl⟩

theorem apart_any (a b : Nat) (ha : a < 18446744073709551616) (hb : b < 18446744073709551616) (w : World) :
    Calls Try.prog 8 #[.int .u64 (a : Int), .int .u64 (b : Int)] w fun e w' => e = .returned (.bool true) ∧ ∃ n, w.drewN n = w' := by
  have s2 := add_comm_w a b
  have p2 := mul_comm_w a b
  rcases nan_cases a with ca | ca | ca
  · exact apart_N a b _ _ ha hb rfl s2 rfl p2 (kind_of_nan ca) w
  · rcases nan_cases b with cb | cb | cb
    · exact apart_oN a b _ _ ha hb rfl s2 rfl p2 (by rw [kind_of_inf ca]; decide) (kind_of_nan cb) w
    · exact apart_I a b _ _ ha hb rfl s2 rfl p2 (kind_of_inf ca) (by rw [kind_of_inf cb]; decide) w
    · exact apart_I a b _ _ ha hb rfl s2 rfl p2 (kind_of_inf ca) (kne2 cb).1 w
  · rcases nan_cases b with cb | cb | cb
    · exact apart_oN a b _ _ ha hb rfl s2 rfl p2 (kne2 ca).1 (kind_of_nan cb) w
    · exact apart_fI a b _ _ ha hb rfl s2 rfl p2 (kne2 ca).1 (kne2 ca).2 (kind_of_inf cb) w
    · exact apart_ff a b _ _ _ _ ha hb rfl s2 rfl p2 (kne2 ca).1 (kne2 ca).2 (kne2 cb).1 (kne2 cb).2 rfl (opN_lt 2 ha hb) (sub_cmp ca cb) rfl w

end Go.Proofs.Ytdkofonpkbjjmaa.Fp
