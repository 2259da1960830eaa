/- The contract of the document's own answer to chapter 1 (cloisterref1): Int, and Op at every operation, for every word below 2^64. -/
import Derived.Test.YtdkofonpkbjjmaaRefC
import Derived.Test.YtdkofonpkbjjmaaFpInts
namespace Go.Proofs.Ytdkofonpkbjjmaa.Fp
open Go.RowKit
set_option linter.unusedVariables false

theorem rop_any (op : Int) (a b : Nat) (ha : a < 18446744073709551616) (hb : b < 18446744073709551616) (w : World) :
    Calls Try.prog 21 #[.int .i64 op, .int .u64 (a : Int), .int .u64 (b : Int)] w fun e w' => e = .returned (.int .u64 (opN op a b : Nat)) ∧ ∃ n, w.drewN n = w' := by
  have h5 : opN 5 a b = if orderN a b ≤ 0 then cleanN a else cleanN b := min_ref ha hb
  by_cases o5 : op = 5
  · subst o5
    rw [h5]
    by_cases c : orderN a b ≤ 0
    · rw [if_pos c]; exact rop_min a b _ ha hb (Or.inl ⟨decide_eq_true c, rfl⟩) w
    · rw [if_neg c]; exact rop_min a b _ ha hb (Or.inr ⟨decide_eq_false c, rfl⟩) w
  · by_cases o6 : op = 6
    · subst o6
      cases na : nanN a
      · cases nb : nanN b
        · rw [max_ref ha hb na nb]
          by_cases c : 0 ≤ orderN a b
          · rw [if_pos c]; exact rop_max_b a b ha hb (kind_not_nan na) (Or.inr ⟨kind_not_nan nb, decide_eq_true c⟩) w
          · rw [if_neg c]; exact rop_max_c a b ha hb (kind_not_nan na) (kind_not_nan nb) (decide_eq_false c) w
        · have : opN 6 a b = a := by rw [op6, pick_nan_right _ na nb, clean_id na]
          rw [this]; exact rop_max_b a b ha hb (kind_not_nan na) (Or.inl (kind_of_nan nb)) w
      · have : opN 6 a b = cleanN b := by rw [op6, pick_nan_left _ na]
        rw [this]; exact rop_max_a a b _ ha hb (kind_of_nan na) rfl w
    · unfold opN
      split
      · exact rop_arith op .add (by simp_all) a b w
      · split
        · exact rop_arith op .sub (by simp_all) a b w
        · split
          · exact rop_arith op .mul (by simp_all) a b w
          · split
            · exact rop_arith op .quo (by simp_all) a b w
            · exact rop_none op (by omega) a b w

/-! ### What Int tells, by the two parts -/

theorem units_parts {x : Nat} (h : 1 ≤ expN x) : unitsR (x % 9223372036854775808) = (fracN x + 4503599627370496) * 2 ^ (expN x - 1) := by
  have h1 := mag_parts x
  have h2 := frac_lt x
  unfold magN at h1
  unfold unitsR
  rw [h1]
  generalize expN x = E at *
  generalize fracN x = M at *
  rw [if_neg (by omega)]
  have e1 : (E * 4503599627370496 + M) % 4503599627370496 = M := by omega
  have e2 : (E * 4503599627370496 + M) / 4503599627370496 = E := by omega
  rw [e1, e2, Nat.add_comm]

theorem mag_lt_edge {x : Nat} (h : expN x ≤ 1085) : x % 9223372036854775808 < 4890909195324358656 := by
  have h1 := mag_parts x
  have h2 := frac_lt x
  unfold magN at h1
  omega
theorem edge_le_mag {x : Nat} (h : 1086 ≤ expN x) : 4890909195324358656 ≤ x % 9223372036854775808 := by
  have h1 := mag_parts x
  unfold magN at h1
  omega

theorem val_tdiv (x : Nat) : (valueW x).tdiv oneU = if negW x then -((unitsR (x % 9223372036854775808) / oneU : Nat) : Int) else ((unitsR (x % 9223372036854775808) / oneU : Nat) : Int) := by
  unfold valueW
  cases negW x
  · simp
  · simp [Int.neg_tdiv]

theorem int_within_parts {x : Nat} (hn : nanN x = false) (h : expN x ≤ 1085) : intN x = (if negW x then -((unitsR (x % 9223372036854775808) / oneU : Nat) : Int) else ((unitsR (x % 9223372036854775808) / oneU : Nat) : Int), true) := by
  have hl := units_lt (mag_lt_edge h)
  rw [units_edge] at hl
  rw [← val_tdiv]
  apply intN_val hn
  · unfold valueW; split <;> omega
  · unfold valueW; split <;> omega

theorem pow_cut (m a K : Nat) : m * 2 ^ a / 2 ^ K = if K ≤ a then m * 2 ^ (a - K) else m / 2 ^ (K - a) := by
  by_cases h : K ≤ a
  · rw [if_pos h]
    obtain ⟨d, rfl⟩ : ∃ d, a = d + K := ⟨a - K, by omega⟩
    rw [Nat.pow_add, ← Nat.mul_assoc, Nat.mul_div_cancel _ (Nat.two_pow_pos _)]
    congr 2; omega
  · rw [if_neg h]
    obtain ⟨d, rfl⟩ : ∃ d, K = d + a := ⟨K - a, by omega⟩
    rw [Nat.pow_add, Nat.mul_div_mul_right _ _ (Nat.two_pow_pos _)]
    congr 2; omega

theorem int_parts_up {x : Nat} (hn : nanN x = false) (h1 : 1075 ≤ expN x) (h2 : expN x ≤ 1085) : unitsR (x % 9223372036854775808) / oneU = (fracN x + 4503599627370496) * 2 ^ (expN x - 1075) := by
  have e : tenK = 1074 := rfl
  have e2 : expN x - 1 - tenK = expN x - 1075 := by omega
  rw [units_parts (by omega), oneU_eq, pow_cut, if_pos (by omega), e2]
theorem int_parts_down {x : Nat} (hn : nanN x = false) (h1 : 1023 ≤ expN x) (h2 : expN x ≤ 1074) : unitsR (x % 9223372036854775808) / oneU = (fracN x + 4503599627370496) / 2 ^ (1075 - expN x) := by
  have e : tenK = 1074 := rfl
  have e2 : tenK - (expN x - 1) = 1075 - expN x := by omega
  rw [units_parts (by omega), oneU_eq, pow_cut, if_neg (by omega), e2]
theorem int_parts_small {x : Nat} (h1 : expN x < 1023) : unitsR (x % 9223372036854775808) / oneU = 0 := by
  have e : tenK = 1074 := rfl
  have hf := frac_lt x
  by_cases h0 : 1 ≤ expN x
  · rw [units_parts h0, oneU_eq, pow_cut, if_neg (by omega)]
    apply Nat.div_eq_of_lt
    have : (2 : Nat) ^ 53 ≤ 2 ^ (tenK - (expN x - 1)) := Nat.pow_le_pow_right (by decide) (by omega)
    rw [pow53] at this
    omega
  · apply Nat.div_eq_of_lt
    have h1 := mag_parts x
    unfold magN at h1
    have h2 : x % 9223372036854775808 < 4503599627370496 := by
      have : expN x = 0 := by omega
      rw [this] at h1; omega
    have h3 : unitsR (x % 9223372036854775808) = x % 9223372036854775808 := by unfold unitsR; rw [if_pos h2]
    have h4 : (2 : Nat) ^ 52 ≤ oneU := by rw [oneU_eq]; exact Nat.pow_le_pow_right (by decide) (by omega)
    rw [pow52] at h4
    omega

theorem or_top52 (M : Nat) (h : M < 4503599627370496) : bits .or .u64 (M : Int) 4503599627370496 = ((M + 4503599627370496 : Nat) : Int) := by
  have h1 : bits .or .u64 (M : Int) 4503599627370496 = ((M ||| 4503599627370496 : Nat) : Int) := u64_or_nat M 4503599627370496 (by omega) (by decide)
  have e : M ||| 4503599627370496 = M + 4503599627370496 := by
    rw [Nat.or_comm]
    have h2 : (4503599627370496 : Nat) = 2 ^ 52 := by decide
    have := nat_join 52 4503599627370496 M (by decide) (by rw [← h2]; exact h)
    omega
  rw [h1, e]

theorem int_great_pos {x : Nat} (hn : nanN x = false) (h : 1086 ≤ expN x) (hs : negW x = false) : intN x = (9223372036854775807, false) := by
  have hl := units_le (edge_le_mag h)
  rw [units_edge] at hl
  have o1 : FloatKind.f64.format.order x 4890909195324358656 = some (compare (valueW x) (valueW 4890909195324358656)) := order_val hn nan_edge
  have hv : valueW x = (unitsR (x % 9223372036854775808) : Int) := by unfold valueW; rw [hs]; rfl
  rw [value_edge, hv] at o1
  unfold intN
  rw [hn, o1]
  simp only [Bool.false_eq_true, if_false]
  rw [if_pos]
  rcases Int.lt_trichotomy (unitsR (x % 9223372036854775808) : Int) ((9223372036854775808 * oneU : Nat) : Int) with q | q | q
  · omega
  · right; rw [compare_eq q]
  · left; rw [compare_gt q]

theorem int_great_neg {x : Nat} (h64 : x < 18446744073709551616) (hn : nanN x = false) (h : 1086 ≤ expN x) (hs : negW x = true) : intN x = (-9223372036854775808, x == 14114281232179134464) := by
  have hl := units_le (edge_le_mag h)
  rw [units_edge] at hl
  have hp := oneU_pos
  have hv : valueW x = -(unitsR (x % 9223372036854775808) : Int) := by unfold valueW; rw [hs]; rfl
  by_cases e : x = 14114281232179134464
  · subst e
    have := intN_val (x := 14114281232179134464) hn (by rw [value_negEdge]; omega) (by rw [value_negEdge]; omega)
    rw [this, value_negEdge]
    have e2 : (-((9223372036854775808 * oneU : Nat) : Int)).tdiv oneU = -9223372036854775808 := by
      rw [edge_cast, ← Int.neg_mul]; exact tdiv_oneU _
    rw [e2]; rfl
  · have e3 : (x == 14114281232179134464) = false := by simpa using e
    have hne : x % 9223372036854775808 ≠ 4890909195324358656 := by
      intro q
      have := word_of h64
      rw [hs, q] at this
      exact e (by rw [← this]; decide)
    have hl2 : 9223372036854775808 * oneU < unitsR (x % 9223372036854775808) := by
      rw [← units_edge]; exact units_lt (by have := edge_le_mag h; omega)
    have o1 : FloatKind.f64.format.order x 4890909195324358656 = some (compare (valueW x) (valueW 4890909195324358656)) := order_val hn nan_edge
    have o2 : FloatKind.f64.format.order x 14114281232179134464 = some (compare (valueW x) (valueW 14114281232179134464)) := order_val hn nan_negEdge
    rw [value_edge, hv, compare_lt (by omega)] at o1
    rw [value_negEdge, hv, compare_lt (by omega)] at o2
    unfold intN
    rw [hn, o1, o2, e3]
    simp

attribute [local irreducible] Int.lt Int.le kindN cleanN placeN nanN orderN cmpN opN intN

theorem ret_tup {a a' : Int} {b b' : Bool} (h : a = a') (h2 : b = b') : Ending.returned (.tuple #[.int .i64 a, .bool b]) = .returned (.tuple #[.int .i64 a', .bool b']) := by rw [h, h2]
theorem wrap_up (n : Int) (h0 : 0 ≤ n) (h : n < 9223372036854775808) : wrap64 (IntKind.u64.wrap n) = n := by
  rw [IntKind.wrap_u64]; unfold wrap64; omega
theorem wrap_one (n : Int) (h0 : 0 ≤ n) (h : n < 9223372036854775808) : wrap64 n = n := by
  unfold wrap64; omega
theorem wrap_neg (n : Int) (h0 : 0 ≤ n) (h : n < 9223372036854775808) : wrap64 (-n) = -n := by
  unfold wrap64; omega

theorem rint_nan (x : Nat) (hx : x < 18446744073709551616) (hk : kindN x = 1) (hi : intN x = (0, false)) (w : World) :
    Calls Try.prog 18 #[.int .u64 (x : Int)] w fun e w' => e = .returned (.tuple #[.int .i64 (intN x).1, .bool (intN x).2]) ∧ w = w' := by
  have Hi := Lib.hid hi
  clear hi
  go_enter Try.func18, Try.ntmps18
  go_wp2_with (go_at_call 19; refine (rkind_any _ hx _).mono ?_; rintro e w' ⟨rfl, rfl⟩)
  go_ret2
  rw [Hi.out]
  exact ⟨rfl, rfl⟩

theorem rint_small (x E M : Nat) (hx : x < 18446744073709551616) (hk : (kindN x == 1) = false) (s : Bool) (hs : ((x : Int) / 9223372036854775808 == 1) = s)
    (hE : bits .and .u64 ((x : Int) / 4503599627370496) 2047 = (E : Int)) (hM : bits .and .u64 (x : Int) 4503599627370495 = (M : Int)) (hE1 : E < 1023) (hi : intN x = (0, true)) (w : World) :
    Calls Try.prog 18 #[.int .u64 (x : Int)] w fun e w' => e = .returned (.tuple #[.int .i64 (intN x).1, .bool (intN x).2]) ∧ w = w' := by
  have Hi := Lib.hid hi
  clear hi
  go_enter Try.func18, Try.ntmps18
  go_wp2_with (go_at_call 19; refine (rkind_any _ hx _).mono ?_; rintro e w' ⟨rfl, rfl⟩)
  go_ret2
  rw [Hi.out]
  exact ⟨rfl, rfl⟩

theorem rint_great (x E M : Nat) (hx : x < 18446744073709551616) (hk : (kindN x == 1) = false) (r : Int × Bool)
    (hE : bits .and .u64 ((x : Int) / 4503599627370496) 2047 = (E : Int)) (hM : bits .and .u64 (x : Int) 4503599627370495 = (M : Int)) (hE1 : 1085 < E) (hE2 : E < 2048)
    (hr : ((x : Int) / 9223372036854775808 == 1) = false ∧ r = (9223372036854775807, false) ∨ ((x : Int) / 9223372036854775808 == 1) = true ∧ ((x : Int) == 14114281232179134464) = true ∧ r = (-9223372036854775808, true) ∨ ((x : Int) / 9223372036854775808 == 1) = true ∧ ((x : Int) == 14114281232179134464) = false ∧ r = (-9223372036854775808, false))
    (hi : intN x = r) (w : World) :
    Calls Try.prog 18 #[.int .u64 (x : Int)] w fun e w' => e = .returned (.tuple #[.int .i64 (intN x).1, .bool (intN x).2]) ∧ w = w' := by
  rcases hr with ⟨h1, rfl⟩ | ⟨h1, h2, rfl⟩ | ⟨h1, h2, rfl⟩
  all_goals
    have Hi := Lib.hid hi
    clear hi
    go_enter Try.func18, Try.ntmps18
    go_wp2_with (go_at_call 19; refine (rkind_any _ hx _).mono ?_; rintro e w' ⟨rfl, rfl⟩)
    go_ret2
    rw [Hi.out]
    exact ⟨rfl, rfl⟩

theorem rint_up (x E M m : Nat) (hx : x < 18446744073709551616) (hk : (kindN x == 1) = false) (s : Bool) (hs : ((x : Int) / 9223372036854775808 == 1) = s)
    (hE : bits .and .u64 ((x : Int) / 4503599627370496) 2047 = (E : Int)) (hM : bits .and .u64 (x : Int) 4503599627370495 = (M : Int)) (hm : bits .or .u64 (M : Int) 4503599627370496 = (m : Int)) (hE1 : 1075 ≤ E) (hE2 : E ≤ 1085) (hb0 : 0 ≤ (m : Int) * 2 ^ (E - 1075)) (hb : (m : Int) * 2 ^ (E - 1075) < 9223372036854775808) (hi : intN x = (if s then -((m : Int) * 2 ^ (E - 1075)) else (m : Int) * 2 ^ (E - 1075), true)) (w : World) :
    Calls Try.prog 18 #[.int .u64 (x : Int)] w fun e w' => e = .returned (.tuple #[.int .i64 (intN x).1, .bool (intN x).2]) ∧ w = w' := by
  have Hi := Lib.hid hi
  have Hw := Lib.hid (wrap_up _ hb0 hb)
  have Hn := Lib.hid (wrap_neg _ hb0 hb)
  clear hi hb0 hb
  cases s
  all_goals
    go_enter Try.func18, Try.ntmps18
    go_wp2_with (go_at_call 19; refine (rkind_any _ hx _).mono ?_; rintro e w' ⟨rfl, rfl⟩)
    go_ret2
    rw [Hi.out]
    refine ⟨ret_tup ?_ rfl, rfl⟩
    first | exact Hw.out | (rw [Hw.out]; exact Hn.out)

theorem rint_down (x E M m : Nat) (hx : x < 18446744073709551616) (hk : (kindN x == 1) = false) (s : Bool) (hs : ((x : Int) / 9223372036854775808 == 1) = s)
    (hE : bits .and .u64 ((x : Int) / 4503599627370496) 2047 = (E : Int)) (hM : bits .and .u64 (x : Int) 4503599627370495 = (M : Int)) (hm : bits .or .u64 (M : Int) 4503599627370496 = (m : Int)) (hE1 : 1023 ≤ E) (hE2 : E ≤ 1074) (hb0 : 0 ≤ (m : Int) / 2 ^ (-((E : Int) - 1075)).toNat) (hb : (m : Int) / 2 ^ (-((E : Int) - 1075)).toNat < 9223372036854775808) (hi : intN x = (if s then -((m : Int) / 2 ^ (-((E : Int) - 1075)).toNat) else (m : Int) / 2 ^ (-((E : Int) - 1075)).toNat, true)) (w : World) :
    Calls Try.prog 18 #[.int .u64 (x : Int)] w fun e w' => e = .returned (.tuple #[.int .i64 (intN x).1, .bool (intN x).2]) ∧ w = w' := by
  have Hi := Lib.hid hi
  have Hw := Lib.hid (wrap_one _ hb0 hb)
  have Hn := Lib.hid (wrap_neg _ hb0 hb)
  clear hi hb0 hb
  cases s
  all_goals
    go_enter Try.func18, Try.ntmps18
    go_wp2_with (go_at_call 19; refine (rkind_any _ hx _).mono ?_; rintro e w' ⟨rfl, rfl⟩)
    go_ret2
    rw [Hi.out]
    refine ⟨ret_tup ?_ rfl, rfl⟩
    first | exact Hw.out | (rw [Hw.out]; exact Hn.out)

end Go.Proofs.Ytdkofonpkbjjmaa.Fp
